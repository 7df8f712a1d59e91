/-
  AX: arithmetic of machine words, for use in 'simp'.
-/
import Derived.Test.YtklmapfmilefhaaGreatAxSim
set_option linter.unusedSimpArgs false
set_option linter.unusedVariables false
set_option linter.unusedSectionVars false
namespace Go.Ax

theorem and_mask (x : Int) (j : Nat) (hj : j ≤ 63) (h0 : 0 ≤ x) (h : x ≤ 18446744073709551615) (m : Int) (hm : m = 2 ^ j - 1) :
    IntKind.wrap .u64 ((BitVec.ofInt (IntKind.bits .u64) x &&& BitVec.ofInt (IntKind.bits .u64) m).toNat : Int) = x % 2 ^ j := by
  obtain ⟨n, rfl⟩ := Int.eq_ofNat_of_zero_le h0
  have hn : n < 2 ^ 64 := by omega
  have hp : 2 ^ j ≤ 2 ^ 63 := Nat.pow_le_pow_right (by omega) hj
  have hpos : 0 < 2 ^ j := Nat.pos_of_ne_zero (by simp)
  have hm' : m = ((2 ^ j - 1 : Nat) : Int) := by rw [hm]; push_cast [Nat.one_le_two_pow]; rfl
  have e : (BitVec.ofInt (IntKind.bits .u64) (n : Int) &&& BitVec.ofInt (IntKind.bits .u64) m).toNat = n % 2 ^ j := by
    rw [BitVec.toNat_and, hm']
    show (BitVec.ofInt 64 (n : Int)).toNat &&& (BitVec.ofInt 64 ((2 ^ j - 1 : Nat) : Int)).toNat = _
    rw [BitVec.ofInt_natCast, BitVec.ofInt_natCast, BitVec.toNat_ofNat, BitVec.toNat_ofNat, Nat.mod_eq_of_lt hn, Nat.mod_eq_of_lt (by omega), Nat.and_two_pow_sub_one_eq_mod]
  rw [e, wrapU64 (by omega)]
  · push_cast; rfl
  · have := Nat.mod_lt n hpos
    omega

theorem shr_lit (k : IntKind) (x : Int) (b : Int) (hb : 0 ≤ b) (hb' : b ≤ 8) : shiftBin .shr k x b = some (.int k (x / 2 ^ b.toNat)) := by
  unfold shiftBin
  rw [if_neg (by omega)]
  have : min b.toNat k.bits = b.toNat := by
    have : 8 ≤ k.bits := by cases k <;> decide
    omega
  simp only [this]
  rw [Int.fdiv_eq_ediv_of_nonneg _ (by have := Int.pow_pos (n := 2) (m := b.toNat) (by omega); omega)]
theorem shr64 (k : IntKind) (hk : k.bits = 64) (x : Int) (b : Int) (hb : 0 ≤ b) (hb' : b ≤ 64) : shiftBin .shr k x b = some (.int k (x / 2 ^ b.toNat)) := by
  unfold shiftBin
  rw [if_neg (by omega)]
  have : min b.toNat k.bits = b.toNat := by omega
  simp only [this]
  rw [Int.fdiv_eq_ediv_of_nonneg _ (by have := Int.pow_pos (n := 2) (m := b.toNat) (by omega); omega)]
theorem shl64 (k : IntKind) (hk : k.bits = 64) (x : Int) (b : Int) (hb : 0 ≤ b) (hb' : b ≤ 64) : shiftBin .shl k x b = some (.int k (k.wrap (x * 2 ^ b.toNat))) := by
  unfold shiftBin
  rw [if_neg (by omega)]
  have : min b.toNat k.bits = b.toNat := by omega
  simp only [this]
end Go.Ax
