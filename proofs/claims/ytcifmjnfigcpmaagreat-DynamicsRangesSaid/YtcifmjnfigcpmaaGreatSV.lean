/-
  The functions of bits and magnitudes.
-/
import Derived.Test.YtcifmjnfigcpmaaGreatSProg
import Derived.Test.YtcifmjnfigcpmaaGreatBxK
import Derived.Test.YtcifmjnfigcpmaaGreatBxI
import Derived.KernelRfl
set_option linter.unusedSimpArgs false
set_option linter.unusedVariables false
set_option linter.unusedSectionVars false
namespace Go.Bx.S
open Go Go.Bx
set_option maxRecDepth 10000
variable {P : Program}
abbrev TI : Ty := .int .i64
abbrev TU : Ty := .int .u64
abbrev TRange : Ty := .pair TI TI
abbrev TWide : Ty := .pair .bool (.pair TU TU)
abbrev R2 := Int × Int
abbrev W3 := Bool × Int × Int
def te0 : TE := fun _ => none
def no : Nat → Option LA := fun _ => none
theorem fin2 {α β : Type} {x : α} {b : β} {m : α × β} (h : m = (x, b)) : (x = m.1 ∧ b = m.2) ∧ True := by subst h; exact ⟨⟨rfl, rfl⟩, trivial⟩
theorem fin3 {α β γ : Type} {x : α} {b : β} {c : γ} {m : α × β × γ} (h : m = (x, b, c)) : (x = m.1 ∧ b = m.2.1 ∧ c = m.2.2) ∧ True := by subst h; exact ⟨⟨rfl, rfl, rfl⟩, trivial⟩
theorem tr {A : Prop} (h : A) : A ∧ True := ⟨h, trivial⟩
theorem shr_n (x n v : Int) (h : (2 : Int) ^ (min n.toNat 64) = v) (hv : 0 ≤ v) : shrI .u64 x n = x / v := by
  show x.fdiv (2 ^ (min n.toNat 64)) = _
  rw [h, Int.fdiv_eq_ediv_of_nonneg _ hv]
theorem shl_n (x n v : Int) (h : (2 : Int) ^ (min n.toNat 64) = v) : shlI .u64 x n = IntKind.wrap .u64 (x * v) := by
  show IntKind.wrap .u64 (x * 2 ^ (min n.toNat 64)) = _
  rw [h]
theorem sh32 (x : Int) : shrI .u64 x 32 = x / 4294967296 := shr_n x 32 _ (by decide) (by decide)
theorem sh16 (x : Int) : shrI .u64 x 16 = x / 65536 := shr_n x 16 _ (by decide) (by decide)
theorem sh17 (x : Int) : shrI .u64 x 17 = x / 131072 := shr_n x 17 _ (by decide) (by decide)
theorem sl48 (x : Int) : shlI .u64 x 48 = IntKind.wrap .u64 (x * 281474976710656) := shl_n x 48 _ (by decide)
theorem sl47 (x : Int) : shlI .u64 x 47 = IntKind.wrap .u64 (x * 140737488355328) := shl_n x 47 _ (by decide)

def s_mul (x : Int × Int) : Int × Int := (x.1 * x.2 / 18446744073709551616, x.1 * x.2 % 18446744073709551616)
def u64 (x : Int) : Prop := 0 ≤ x ∧ x ≤ 18446744073709551615
def b_mul (x : Int × Int) : Prop := u64 x.1 ∧ u64 x.2
theorem mul64 {x y : Int} (hx : 0 ≤ x) (hx' : x ≤ 18446744073709551615) (hy : 0 ≤ y) (hy' : y ≤ 18446744073709551615) :
    IntKind.wrap .u64 (IntKind.wrap .u64 (IntKind.wrap .u64 (shrI .u64 x (32 : Int) * shrI .u64 y (32 : Int)) + shrI .u64 (IntKind.wrap .u64 (IntKind.wrap .u64 (shrI .u64 x (32 : Int) * bandI .u64 y (4294967295 : Int)) + shrI .u64 (IntKind.wrap .u64 (bandI .u64 x (4294967295 : Int) * bandI .u64 y (4294967295 : Int))) (32 : Int))) (32 : Int)) + shrI .u64 (IntKind.wrap .u64 (bandI .u64 (IntKind.wrap .u64 (IntKind.wrap .u64 (shrI .u64 x (32 : Int) * bandI .u64 y (4294967295 : Int)) + shrI .u64 (IntKind.wrap .u64 (bandI .u64 x (4294967295 : Int) * bandI .u64 y (4294967295 : Int))) (32 : Int))) (4294967295 : Int) + IntKind.wrap .u64 (bandI .u64 x (4294967295 : Int) * shrI .u64 y (32 : Int)))) (32 : Int))
      = x * y / 18446744073709551616 ∧ IntKind.wrap .u64 (x * y) = x * y % 18446744073709551616 := by
  obtain ⟨x0, hx0⟩ : ∃ x0, x0 = x % 4294967296 := ⟨_, rfl⟩
  obtain ⟨x1, hx1⟩ : ∃ x1, x1 = x / 4294967296 := ⟨_, rfl⟩
  obtain ⟨y0, hy0⟩ : ∃ y0, y0 = y % 4294967296 := ⟨_, rfl⟩
  obtain ⟨y1, hy1⟩ : ∃ y1, y1 = y / 4294967296 := ⟨_, rfl⟩
  have bx0 : 0 ≤ x0 ∧ x0 ≤ 4294967295 := by omega
  have bx1 : 0 ≤ x1 ∧ x1 ≤ 4294967295 := by omega
  have by0 : 0 ≤ y0 ∧ y0 ≤ 4294967295 := by omega
  have by1 : 0 ≤ y1 ∧ y1 ≤ 4294967295 := by omega
  have bnd : ∀ a b : Int, 0 ≤ a ∧ a ≤ 4294967295 → 0 ≤ b ∧ b ≤ 4294967295 → 0 ≤ a * b ∧ a * b ≤ 18446744065119617025 := fun a b ha hb =>
    ⟨Int.mul_nonneg ha.1 hb.1, Int.le_trans (Int.mul_le_mul ha.2 hb.2 hb.1 (by omega)) (by omega)⟩
  have b00 := bnd x0 y0 bx0 by0
  have b10 := bnd x1 y0 bx1 by0
  have b01 := bnd x0 y1 bx0 by1
  have b11 := bnd x1 y1 bx1 by1
  have hxy : x * y = x1 * y1 * 18446744073709551616 + (x1 * y0 + x0 * y1) * 4294967296 + x0 * y0 := by
    have h1 : x = x1 * 4294967296 + x0 := by omega
    have h2 : y = y1 * 4294967296 + y0 := by omega
    rw [h1, h2]
    simp only [Int.add_mul, Int.mul_add]
    have e1 : x1 * 4294967296 * (y1 * 4294967296) = x1 * y1 * 18446744073709551616 := by
      rw [Int.mul_assoc, Int.mul_left_comm 4294967296, ← Int.mul_assoc, ← Int.mul_assoc, Int.mul_assoc (x1 * y1)]; rfl
    have e2 : x1 * 4294967296 * y0 = x1 * y0 * 4294967296 := by rw [Int.mul_assoc, Int.mul_comm 4294967296, ← Int.mul_assoc]
    have e3 : x0 * (y1 * 4294967296) = x0 * y1 * 4294967296 := by rw [Int.mul_assoc]
    rw [e1, e2, e3]
    omega
  obtain ⟨p00, hp00⟩ : ∃ p, p = x0 * y0 := ⟨_, rfl⟩
  obtain ⟨p10, hp10⟩ : ∃ p, p = x1 * y0 := ⟨_, rfl⟩
  obtain ⟨p01, hp01⟩ : ∃ p, p = x0 * y1 := ⟨_, rfl⟩
  obtain ⟨p11, hp11⟩ : ∃ p, p = x1 * y1 := ⟨_, rfl⟩
  have w00 : IntKind.wrap .u64 (x0 * y0) = p00 := by rw [wrapU64 (by omega) (by omega), hp00]
  have w10 : IntKind.wrap .u64 (x1 * y0) = p10 := by rw [wrapU64 (by omega) (by omega), hp10]
  have w01 : IntKind.wrap .u64 (x0 * y1) = p01 := by rw [wrapU64 (by omega) (by omega), hp01]
  have w11 : IntKind.wrap .u64 (x1 * y1) = p11 := by rw [wrapU64 (by omega) (by omega), hp11]
  rw [← hp00, ← hp10, ← hp01, ← hp11] at hxy
  rw [← hp00] at b00
  rw [← hp10] at b10
  rw [← hp01] at b01
  rw [← hp11] at b11
  obtain ⟨q0, hq0⟩ : ∃ p, p = p00 / 4294967296 := ⟨_, rfl⟩
  obtain ⟨t, ht⟩ : ∃ p, p = p10 + q0 := ⟨_, rfl⟩
  have w3 : IntKind.wrap .u64 (p10 + q0) = t := by rw [wrapU64 (by omega) (by omega), ht]
  obtain ⟨t0, ht0⟩ : ∃ p, p = t % 4294967296 := ⟨_, rfl⟩
  obtain ⟨t1, ht1⟩ : ∃ p, p = t / 4294967296 := ⟨_, rfl⟩
  have a3 := and_mask t 32 (by omega) (by omega) (by omega) 4294967295 (by decide)
  rw [show (2 ^ 32 : Int) = 4294967296 from rfl, ← ht0] at a3
  obtain ⟨u, hu⟩ : ∃ p, p = t0 + p01 := ⟨_, rfl⟩
  have w4 : IntKind.wrap .u64 (t0 + p01) = u := by rw [wrapU64 (by omega) (by omega), hu]
  obtain ⟨u1, hu1⟩ : ∃ p, p = u / 4294967296 := ⟨_, rfl⟩
  have w5 : IntKind.wrap .u64 (p11 + t1) = p11 + t1 := wrapU64 (by omega) (by omega)
  have w6 : IntKind.wrap .u64 (p11 + t1 + u1) = x * y / 18446744073709551616 := by rw [wrapU64 (by omega) (by omega)]; omega
  have w7 : IntKind.wrap .u64 (x * y) = x * y % 18446744073709551616 := wrapU64_mod _
  have a1 := and_mask x 32 (by omega) hx hx' 4294967295 (by decide)
  have a2 := and_mask y 32 (by omega) hy hy' 4294967295 (by decide)
  rw [show (2 ^ 32 : Int) = 4294967296 from rfl, ← hx0] at a1
  rw [show (2 ^ 32 : Int) = 4294967296 from rfl, ← hy0] at a2
  have a1 : bandI .u64 x 4294967295 = x0 := a1
  have a2 : bandI .u64 y 4294967295 = y0 := a2
  have a3 : bandI .u64 t 4294967295 = t0 := a3
  refine ⟨?_, w7⟩
  rw [a1, a2, sh32 x, sh32 y, ← hx1, ← hy1, w00, w10, w01, w11, sh32 p00, ← hq0, w3, sh32 t, ← ht1, a3, w4, sh32 u, ← hu1, w5, w6]
theorem Mul64_2 (h : Good P) (x : Int × Int) (hx : b_mul x) : PurT P n_math_bits_Mul64 [TU, TU] x [TU, TU] (s_mul x) := by
  refine purT_of_vc h.c_math_bits_Mul64 h.m te0 [] trivial 0 no ?_
  refine Eq.mpr (β := (IntKind.wrap .u64 (IntKind.wrap .u64 (IntKind.wrap .u64 (shrI .u64 x.fst (32 : Int) * shrI .u64 x.snd (32 : Int)) + shrI .u64 (IntKind.wrap .u64 (IntKind.wrap .u64 (shrI .u64 x.fst (32 : Int) * bandI .u64 x.snd (4294967295 : Int)) + shrI .u64 (IntKind.wrap .u64 (bandI .u64 x.fst (4294967295 : Int) * bandI .u64 x.snd (4294967295 : Int))) (32 : Int))) (32 : Int)) + shrI .u64 (IntKind.wrap .u64 (bandI .u64 (IntKind.wrap .u64 (IntKind.wrap .u64 (shrI .u64 x.fst (32 : Int) * bandI .u64 x.snd (4294967295 : Int)) + shrI .u64 (IntKind.wrap .u64 (bandI .u64 x.fst (4294967295 : Int) * bandI .u64 x.snd (4294967295 : Int))) (32 : Int))) (4294967295 : Int) + IntKind.wrap .u64 (bandI .u64 x.fst (4294967295 : Int) * shrI .u64 x.snd (32 : Int)))) (32 : Int)) = (s_mul x).fst ∧ IntKind.wrap .u64 (x.fst * x.snd) = (s_mul x).snd) ∧ True) (by kernel_rfl) ?_
  have := mul64 hx.1.1 hx.1.2 hx.2.1 hx.2.2
  exact ⟨this, trivial⟩

theorem or_add (h l : Int) (h0 : 0 ≤ h) (h1 : h < 65536) (l0 : 0 ≤ l) (l1 : l < 281474976710656) :
    IntKind.wrap .u64 ((BitVec.ofInt (IntKind.bits .u64) (IntKind.wrap .u64 (h * 281474976710656)) ||| BitVec.ofInt (IntKind.bits .u64) l).toNat : Int) = h * 281474976710656 + l := by
  rw [wrapU64 (n := h * 281474976710656) (by omega) (by omega)]
  obtain ⟨a, rfl⟩ := Int.eq_ofNat_of_zero_le h0
  obtain ⟨b, rfl⟩ := Int.eq_ofNat_of_zero_le l0
  have e : (BitVec.ofInt (IntKind.bits .u64) ((a : Int) * 281474976710656) ||| BitVec.ofInt (IntKind.bits .u64) (b : Int)).toNat = a * 281474976710656 + b := by
    rw [BitVec.toNat_or]
    show (BitVec.ofInt 64 ((a : Int) * 281474976710656)).toNat ||| (BitVec.ofInt 64 (b : Int)).toNat = _
    rw [show ((a : Int) * 281474976710656) = ((a * 281474976710656 : Nat) : Int) by omega, BitVec.ofInt_natCast, BitVec.ofInt_natCast, BitVec.toNat_ofNat, BitVec.toNat_ofNat, Nat.mod_eq_of_lt (by omega), Nat.mod_eq_of_lt (by omega)]
    have := Nat.shiftLeft_add_eq_or_of_lt (i := 48) (b := b) (by omega) a
    rw [Nat.shiftLeft_eq] at this
    exact this.symm
  rw [e, wrapU64 (by omega) (by omega)]
  omega


def prodB (x y : Int) : Bool := decide ((x * y).natAbs / 65536 ≤ 1152921504606846976)
def dn (x y : Int) : Int := x * y / 65536
def up (x y : Int) : Int := -(-(x * y) / 65536)

theorem sg_t {x y : Int} (c : (!decide (x < 0) == decide (y < 0)) = true) : (x < 0) ≠ (y < 0) := by
  intro e
  by_cases h1 : x < 0 <;> by_cases h2 : y < 0 <;> simp_all
theorem sg_f {x y : Int} (c : (!decide (x < 0) == decide (y < 0)) = false) : (x < 0) = (y < 0) := by
  by_cases h1 : x < 0 <;> by_cases h2 : y < 0 <;> simp_all <;> omega
def bnd (x : Int) : Prop := -1152921504606846976 ≤ x ∧ x ≤ 1152921504606846976
def b_prod (x : Int × Int) : Prop := bnd x.1 ∧ bnd x.2
def prodS (x : Int × Int) : Int × Int × Bool := (if prodB x.1 x.2 then dn x.1 x.2 else 0, if prodB x.1 x.2 then up x.1 x.2 else 0, prodB x.1 x.2)
theorem prodS_f {x : Int × Int} (h : prodB x.1 x.2 = false) : prodS x = (0, 0, false) := by unfold prodS; rw [h]; rfl
theorem prodS_t {x : Int × Int} (h : prodB x.1 x.2 = true) : prodS x = (dn x.1 x.2, up x.1 x.2, true) := by unfold prodS; rw [h]; rfl
theorem product2 (h : Good P) (z : Int × Int) (hz : b_prod z) : PurT P n_dynamics_product [TI, TI] z [TI, TI, .bool] (prodS z) := by
  refine purT_of_vc h.c_dynamics_product h.m te0 [(n_math_bits_Mul64, .fn [TU, TU] [TU, TU] b_mul s_mul)] ⟨Mul64_2 h, trivial⟩ 0 no ?_
  refine Eq.mpr (β := b_mul (IntKind.wrap .u64 (max z.fst (IntKind.wrap .i64 ((0 : Int) - z.fst))), IntKind.wrap .u64 (max z.snd (IntKind.wrap .i64 ((0 : Int) - z.snd)))) ∧ ∀ r, r = s_mul (IntKind.wrap .u64 (max z.fst (IntKind.wrap .i64 ((0 : Int) - z.fst))), IntKind.wrap .u64 (max z.snd (IntKind.wrap .i64 ((0 : Int) - z.snd)))) → cnd (!decide (shrI .u64 r.fst (16 : Int) = (0 : Int))) (((0 : Int) = (prodS z).fst ∧ (0 : Int) = (prodS z).snd.fst ∧ false = (prodS z).snd.snd) ∧ True) (cnd (decide ((1152921504606846976 : Int) < borI .u64 (shlI .u64 r.fst (48 : Int)) (shrI .u64 r.snd (16 : Int)))) (((0 : Int) = (prodS z).fst ∧ (0 : Int) = (prodS z).snd.fst ∧ false = (prodS z).snd.snd) ∧ True) (cnd (!decide (bandI .u64 r.snd (65535 : Int) = (0 : Int))) (cnd (!decide (z.fst < (0 : Int)) == decide (z.snd < (0 : Int))) ((IntKind.wrap .i64 ((0 : Int) - IntKind.wrap .i64 (IntKind.wrap .i64 (borI .u64 (shlI .u64 r.fst (48 : Int)) (shrI .u64 r.snd (16 : Int))) + (1 : Int))) = (prodS z).fst ∧ IntKind.wrap .i64 ((0 : Int) - IntKind.wrap .i64 (borI .u64 (shlI .u64 r.fst (48 : Int)) (shrI .u64 r.snd (16 : Int)))) = (prodS z).snd.fst ∧ true = (prodS z).snd.snd) ∧ True) ((IntKind.wrap .i64 (borI .u64 (shlI .u64 r.fst (48 : Int)) (shrI .u64 r.snd (16 : Int))) = (prodS z).fst ∧ IntKind.wrap .i64 (IntKind.wrap .i64 (borI .u64 (shlI .u64 r.fst (48 : Int)) (shrI .u64 r.snd (16 : Int))) + (1 : Int)) = (prodS z).snd.fst ∧ true = (prodS z).snd.snd) ∧ True)) (cnd (!decide (z.fst < (0 : Int)) == decide (z.snd < (0 : Int))) ((IntKind.wrap .i64 ((0 : Int) - IntKind.wrap .i64 (borI .u64 (shlI .u64 r.fst (48 : Int)) (shrI .u64 r.snd (16 : Int)))) = (prodS z).fst ∧ IntKind.wrap .i64 ((0 : Int) - IntKind.wrap .i64 (borI .u64 (shlI .u64 r.fst (48 : Int)) (shrI .u64 r.snd (16 : Int)))) = (prodS z).snd.fst ∧ true = (prodS z).snd.snd) ∧ True) ((IntKind.wrap .i64 (borI .u64 (shlI .u64 r.fst (48 : Int)) (shrI .u64 r.snd (16 : Int))) = (prodS z).fst ∧ IntKind.wrap .i64 (borI .u64 (shlI .u64 r.fst (48 : Int)) (shrI .u64 r.snd (16 : Int))) = (prodS z).snd.fst ∧ true = (prodS z).snd.snd) ∧ True))))) (by kernel_rfl) ?_
  obtain ⟨x, y⟩ := z
  obtain ⟨hx, hy⟩ := hz
  unfold bnd at hx hy
  simp only at hx hy ⊢
  have n1 : IntKind.wrap .i64 (0 - x) = -x := by rw [wrap64 (by omega) (by omega)]; omega
  have n2 : IntKind.wrap .i64 (0 - y) = -y := by rw [wrap64 (by omega) (by omega)]; omega
  obtain ⟨X, hX⟩ : ∃ X : Int, X = x.natAbs := ⟨_, rfl⟩
  obtain ⟨Y, hY⟩ : ∃ Y : Int, Y = y.natAbs := ⟨_, rfl⟩
  have m1 : IntKind.wrap .u64 (max x (-x)) = X := by
    rw [wrapU64] <;> omega
  have m2 : IntKind.wrap .u64 (max y (-y)) = Y := by
    rw [wrapU64] <;> omega
  obtain ⟨Pr, hP⟩ : ∃ Pr : Int, Pr = X * Y := ⟨_, rfl⟩
  have hP0 : 0 ≤ Pr := by rw [hP]; exact Int.mul_nonneg (by omega) (by omega)
  have hP1 : Pr ≤ 1152921504606846976 * 1152921504606846976 := by rw [hP]; exact Int.mul_le_mul (by omega) (by omega) (by omega) (by omega)
  have hPn : Pr = (x * y).natAbs := by rw [hP, hX, hY, Int.natAbs_mul]; push_cast; rfl
  obtain ⟨hi, hhi⟩ : ∃ q, q = X * Y / 18446744073709551616 := ⟨_, rfl⟩
  obtain ⟨lo, hlo⟩ : ∃ q, q = X * Y % 18446744073709551616 := ⟨_, rfl⟩
  rw [← hP] at hhi hlo
  obtain ⟨l1, hl1⟩ : ∃ q, q = lo / 65536 := ⟨_, rfl⟩
  obtain ⟨h1, hh1⟩ : ∃ q, q = hi / 65536 := ⟨_, rfl⟩
  have a1 := and_mask lo 16 (by omega) (by omega) (by omega) 65535 (by decide)
  obtain ⟨r, hr⟩ : ∃ r, r = lo % 65536 := ⟨_, rfl⟩
  rw [show (2 ^ 16 : Int) = 65536 from rfl, ← hr] at a1
  obtain ⟨q, hq⟩ : ∃ q, q = IntKind.wrap .u64 ((BitVec.ofInt (IntKind.bits .u64) (IntKind.wrap .u64 (hi * 281474976710656)) ||| BitVec.ofInt (IntKind.bits .u64) l1).toNat : Int) := ⟨_, rfl⟩
  have hq' := hq.symm
  have hgood : h1 = 0 → q = Pr / 65536 := by
    intro h
    rw [hq, or_add hi l1 (by omega) (by omega) (by omega) (by omega)]
    omega
  have hneg : (x < 0) = (y < 0) → x * y = Pr := by
    intro h
    have : 0 ≤ x * y := by
      by_cases hx0 : x < 0
      · have hy0 : y < 0 := by rw [← h]; exact hx0
        exact Int.mul_nonneg_of_nonpos_of_nonpos (by omega) (by omega)
      · have hy0 : ¬ y < 0 := by rw [← h]; exact hx0
        exact Int.mul_nonneg (by omega) (by omega)
    omega
  have hpos : (x < 0) ≠ (y < 0) → x * y = -Pr := by
    intro h
    have : x * y ≤ 0 := by
      by_cases hx0 : x < 0
      · have hy0 : ¬ y < 0 := fun hy0 => h (by simp [hx0, hy0])
        exact Int.mul_nonpos_of_nonpos_of_nonneg (by omega) (by omega)
      · have hy0 : y < 0 := by
          rcases Classical.em (y < 0) with h' | h'
          · exact h'
          · exact absurd (by simp [hx0, h']) h
        exact Int.mul_nonpos_of_nonneg_of_nonpos (by omega) (by omega)
    omega
  have a1 : bandI .u64 lo 65535 = r := a1
  rw [show IntKind.wrap .i64 ((0 : Int) - x) = -x from n1, show IntKind.wrap .i64 ((0 : Int) - y) = -y from n2, m1, m2]
  refine ⟨⟨⟨by simp only; omega, by simp only; omega⟩, ⟨by simp only; omega, by simp only; omega⟩⟩, ?_⟩
  rintro ⟨H, L⟩ e
  have e1 : H = hi := by have := congrArg Prod.fst e; simp only [s_mul] at this; rw [this, hhi, hP]
  have e2 : L = lo := by have := congrArg Prod.snd e; simp only [s_mul] at this; rw [this, hlo, hP]
  subst e1 e2
  simp only
  have hQ : borI .u64 (shlI .u64 H 48) (shrI .u64 L 16) = q := by rw [sl48, sh16, ← hl1]; exact hq'
  rw [hQ, a1, sh16, ← hh1]
  refine cnd_i (fun c => fin3 (prodS_f ?_)) (fun c => ?_)
  · have : ¬ h1 = 0 := by simpa using c
    unfold prodB; simp only [decide_eq_false_iff_not]; omega
  have g1 : h1 = 0 := by simpa using c
  have hqP := hgood g1
  refine cnd_dec (fun c => fin3 (prodS_f ?_)) (fun c2 => ?_)
  · unfold prodB; simp only [decide_eq_false_iff_not]; omega
  have gb : prodB x y = true := by unfold prodB; simp only [decide_eq_true_eq]; omega
  have w1 : IntKind.wrap .i64 q = q := wrap64 (by omega) (by omega)
  have w2 : IntKind.wrap .i64 (q + 1) = q + 1 := wrap64 (by omega) (by omega)
  have v1 : IntKind.wrap .i64 (0 - q) = -q := by rw [wrap64 (by omega) (by omega)]; omega
  have v2 : IntKind.wrap .i64 (0 - (q + 1)) = -(q + 1) := by rw [wrap64 (by omega) (by omega)]; omega
  rw [w1, w2, v1, v2]
  have sgn : (!decide (x < 0) == decide (y < 0)) = true → x * y = -Pr := fun c => hpos (sg_t c)
  have sgn2 : (!decide (x < 0) == decide (y < 0)) = false → x * y = Pr := fun c => hneg (sg_f c)
  refine cnd_i (fun c3 => cnd_i (fun c4 => fin3 ?_) (fun c4 => fin3 ?_)) (fun c3 => cnd_i (fun c4 => fin3 ?_) (fun c4 => fin3 ?_))
  all_goals
    rw [prodS_t gb]
    unfold dn up
    simp only [Prod.mk.injEq, and_true]
  · have hr0 : ¬ r = 0 := by simpa using c3
    rw [sgn c4]; omega
  · have hr0 : ¬ r = 0 := by simpa using c3
    rw [sgn2 c4]; omega
  · have hr0 : r = 0 := by simpa using c3
    rw [sgn c4]; omega
  · have hr0 : r = 0 := by simpa using c3
    rw [sgn2 c4]; omega

def s_mag (x : Int) : Int := x.natAbs
def i64 (x : Int) : Prop := -9223372036854775808 ≤ x ∧ x ≤ 9223372036854775807
theorem magnitude2 (h : Good P) (x : Int) (hx : i64 x) : PurT P n_armplanref40_magnitude [TI] x [TU] (s_mag x) := by
  refine purT_of_vc h.c_armplanref40_magnitude h.m te0 [] trivial 0 no ?_
  refine Eq.mpr (β := cnd (decide (x < (0 : Int))) (IntKind.wrap .u64 ((0 : Int) - IntKind.wrap .u64 x) = s_mag x ∧ True) (IntKind.wrap .u64 x = s_mag x ∧ True)) (by kernel_rfl) ?_
  unfold i64 at hx
  unfold s_mag
  refine cnd_dec (fun c => tr ?_) (fun c => tr ?_)
  · simp only [wrapU64_mod]; omega
  · simp only [wrapU64_mod]; omega
theorem or_pos (h l : Int) (h0 : 0 ≤ h) (h1 : h < 18446744073709551616) (l0 : 0 ≤ l) (l1 : l < 18446744073709551616) :
    (IntKind.wrap .u64 ((BitVec.ofInt (IntKind.bits .u64) h ||| BitVec.ofInt (IntKind.bits .u64) l).toNat : Int) > 0) = (h * 18446744073709551616 + l > 0) := by
  obtain ⟨a, rfl⟩ := Int.eq_ofNat_of_zero_le h0
  obtain ⟨b, rfl⟩ := Int.eq_ofNat_of_zero_le l0
  have e : (BitVec.ofInt (IntKind.bits .u64) (a : Int) ||| BitVec.ofInt (IntKind.bits .u64) (b : Int)).toNat = a ||| b := by
    rw [BitVec.toNat_or]
    show (BitVec.ofInt 64 (a : Int)).toNat ||| (BitVec.ofInt 64 (b : Int)).toNat = _
    rw [BitVec.ofInt_natCast, BitVec.ofInt_natCast, BitVec.toNat_ofNat, BitVec.toNat_ofNat, Nat.mod_eq_of_lt (by omega), Nat.mod_eq_of_lt (by omega)]
  have hlt : a ||| b < 18446744073709551616 := Nat.or_lt_two_pow (n := 64) (by omega) (by omega)
  have hz : (a ||| b) = 0 ↔ a = 0 ∧ b = 0 := by
    constructor
    · intro hz
      have h1 : a ≤ a ||| b := Nat.left_le_or
      have h2 : b ≤ a ||| b := Nat.right_le_or
      omega
    · rintro ⟨rfl, rfl⟩; rfl
  rw [e, wrapU64 (by omega) (by omega)]
  apply propext
  constructor
  · intro hp
    have : ¬ (a = 0 ∧ b = 0) := fun hh => by rw [hz.2 hh] at hp; omega
    omega
  · intro hp
    have : ¬ (a ||| b) = 0 := fun hh => by have := hz.1 hh; omega
    omega


theorem or_pos2 {h l : Int} (h0 : 0 ≤ h) (h1 : h < 18446744073709551616) (l0 : 0 ≤ l) (l1 : l < 18446744073709551616) : decide ((0 : Int) < borI .u64 h l) = decide (h * 18446744073709551616 + l > 0) := by
  have := or_pos h l h0 h1 l0 l1
  exact decide_eq_decide.2 (by rw [← this]; exact Iff.rfl)
def negP (x y : Int) : Bool := (decide (x < 0) != decide (y < 0)) && decide ((x.natAbs : Int) * y.natAbs > 0)


def w_times (x : Int × Int) : W3 := (negP x.1 x.2, (x.1.natAbs : Int) * x.2.natAbs / 18446744073709551616, (x.1.natAbs : Int) * x.2.natAbs % 18446744073709551616)
theorem Times2 (h : Good P) (x : Int × Int) (hx : b_prod x) : PurT P n_armplanref40_Times [TI, TI] x [TWide] (w_times x) := by
  refine purT_of_vc h.c_armplanref40_Times h.m te0 [(n_math_bits_Mul64, .fn [TU, TU] [TU, TU] b_mul s_mul), (n_armplanref40_magnitude, .fn [TI] [TU] i64 s_mag)] ⟨Mul64_2 h, magnitude2 h, trivial⟩ 0 no ?_
  refine Eq.mpr (β := i64 x.fst ∧ ∀ r, r = s_mag x.fst → i64 x.snd ∧ ∀ r_1, r_1 = s_mag x.snd → b_mul (r, r_1) ∧ ∀ r_2, r_2 = s_mul (r, r_1) → cnd (!decide (x.fst < (0 : Int)) == decide (x.snd < (0 : Int))) ((decide ((0 : Int) < borI .u64 r_2.fst r_2.snd), r_2) = w_times x ∧ True) ((false, r_2) = w_times x ∧ True)) (by kernel_rfl) ?_
  obtain ⟨x, y⟩ := x
  obtain ⟨hx, hy⟩ := hx
  unfold bnd at hx hy
  simp only at hx hy
  refine ⟨⟨by simp only; omega, by simp only; omega⟩, ?_⟩
  rintro _ rfl
  refine ⟨⟨by simp only; omega, by simp only; omega⟩, ?_⟩
  rintro _ rfl
  unfold s_mag
  simp only
  refine ⟨⟨⟨by simp only; omega, by simp only; omega⟩, ⟨by simp only; omega, by simp only; omega⟩⟩, ?_⟩
  rintro r e
  obtain ⟨V, hV⟩ : ∃ V : Int, V = (x.natAbs : Int) * y.natAbs := ⟨_, rfl⟩
  have hV0 : 0 ≤ V := by rw [hV]; exact Int.mul_nonneg (by omega) (by omega)
  have hV1 : V ≤ 9223372036854775808 * 9223372036854775808 := by rw [hV]; exact Int.mul_le_mul (by omega) (by omega) (by omega) (by omega)
  have e : r = (V / 18446744073709551616, V % 18446744073709551616) := by rw [e]; unfold s_mul; simp only [← hV]
  subst e
  simp only
  have ho := or_pos2 (h := V / 18446744073709551616) (l := V % 18446744073709551616) (by omega) (by omega) (by omega) (by omega)
  rw [show V / 18446744073709551616 * 18446744073709551616 + V % 18446744073709551616 = V by omega] at ho
  refine cnd_i (fun c => tr ?_) (fun c => tr ?_)
  · unfold w_times negP
    rw [ho]
    simp only [← hV]
    rw [show (decide (x < 0) != decide (y < 0)) = true from c]; rfl
  · unfold w_times negP
    simp only [← hV]
    rw [show (decide (x < 0) != decide (y < 0)) = false from c]; rfl

def quoW (neg up : Bool) (V : Int) : Int := V / 65536 + (if decide (V % 65536 > 0) && (up != neg) then 1 else 0)


theorem negP_true {x y : Int} (h : negP x y = true) : x * y = -((x.natAbs : Int) * y.natAbs) ∧ (x.natAbs : Int) * y.natAbs > 0 := by
  simp only [negP, Bool.and_eq_true, bne_iff_ne, ne_eq, decide_eq_true_eq, decide_eq_decide] at h
  refine ⟨?_, h.2⟩
  rcases (show x < 0 ∨ 0 ≤ x from by omega) with hx | hx <;> rcases (show y < 0 ∨ 0 ≤ y from by omega) with hy | hy
  · exact absurd (by simp [hx, hy]) h.1
  · rw [show (x.natAbs : Int) = -x by omega, show (y.natAbs : Int) = y by omega, Int.neg_mul, Int.neg_neg]
  · rw [show (x.natAbs : Int) = x by omega, show (y.natAbs : Int) = -y by omega, Int.mul_neg, Int.neg_neg]
  · exact absurd (by simp [Int.not_lt.2 hx, Int.not_lt.2 hy]) h.1
theorem negP_false {x y : Int} (h : negP x y = false) : x * y = (x.natAbs : Int) * y.natAbs := by
  have h0 : 0 ≤ (x.natAbs : Int) * y.natAbs := Int.mul_nonneg (by omega) (by omega)
  have hab : (x.natAbs : Int) * y.natAbs = ((x * y).natAbs : Int) := by rw [Int.natAbs_mul]; push_cast; rfl
  by_cases hz : (x.natAbs : Int) * y.natAbs > 0
  · simp only [negP, hz, decide_true, Bool.and_true, bne_eq_false_iff_eq, decide_eq_decide] at h
    rcases (show x < 0 ∨ 0 ≤ x from by omega) with hx | hx <;> rcases (show y < 0 ∨ 0 ≤ y from by omega) with hy | hy
    · rw [show (x.natAbs : Int) = -x by omega, show (y.natAbs : Int) = -y by omega, Int.neg_mul_neg]
    · exact absurd (h.1 hx) (by omega)
    · exact absurd (h.2 hy) (by omega)
    · rw [show (x.natAbs : Int) = x by omega, show (y.natAbs : Int) = y by omega]
  · omega

def dnQ (x y : Int) : Int := quoW (negP x y) false ((x.natAbs : Int) * y.natAbs)
def upQ (x y : Int) : Int := quoW (negP x y) true ((x.natAbs : Int) * y.natAbs)
theorem dnQ_eq (x y : Int) : (if (negP x y && decide (dnQ x y > 0)) = true then -dnQ x y else dnQ x y) = dn x y := by
  unfold dnQ quoW dn
  cases h : negP x y with
  | true =>
    obtain ⟨h1, h2⟩ := negP_true h
    rw [h1]
    generalize (x.natAbs : Int) * y.natAbs = V at *
    simp only [Bool.true_and, Bool.false_bne, Bool.and_true, decide_eq_true_eq]
    split <;> split <;> omega
  | false =>
    have h1 := negP_false h
    rw [h1]
    simp
theorem upQ_eq (x y : Int) : (if (negP x y && decide (upQ x y > 0)) = true then -upQ x y else upQ x y) = up x y := by
  unfold upQ quoW up
  cases h : negP x y with
  | true =>
    obtain ⟨h1, h2⟩ := negP_true h
    rw [h1]
    generalize (x.natAbs : Int) * y.natAbs = V at *
    simp only [Bool.true_and, bne_self_eq_false, Bool.and_false, decide_eq_true_eq, Bool.false_eq_true, if_false]
    split <;> omega
  | false =>
    have h1 := negP_false h
    have h0 : 0 ≤ (x.natAbs : Int) * y.natAbs := Int.mul_nonneg (by omega) (by omega)
    rw [h1]
    generalize (x.natAbs : Int) * y.natAbs = V at *
    simp only [Bool.false_and, Bool.false_eq_true, if_false, Bool.true_bne, Bool.not_false, Bool.and_true, decide_eq_true_eq]
    split <;> omega

theorem Q_bound {x y : Int} (hx : -1152921504606846976 ≤ x ∧ x ≤ 1152921504606846976) (hy : -1152921504606846976 ≤ y ∧ y ≤ 1152921504606846976) :
    0 ≤ (x.natAbs : Int) * y.natAbs ∧ (x.natAbs : Int) * y.natAbs ≤ 1152921504606846976 * 1152921504606846976 :=
  ⟨Int.mul_nonneg (by omega) (by omega), Int.mul_le_mul (by omega) (by omega) (by omega) (by omega)⟩
theorem quoW_bound {neg up : Bool} {V : Int} (h0 : 0 ≤ V) (h1 : V ≤ 1152921504606846976 * 1152921504606846976) : 0 ≤ quoW neg up V ∧ quoW neg up V < 340282366920938463463374607431768211456 := by
  unfold quoW; split <;> omega
theorem bad_dn {x y : Int} (h : ¬ dnQ x y ≤ 4611686018427387904) : prodB x y = false := by
  unfold prodB
  unfold dnQ quoW at h
  rw [decide_eq_false_iff_not]
  have hab : (x.natAbs : Int) * y.natAbs = ((x * y).natAbs : Int) := by rw [Int.natAbs_mul]; push_cast; rfl
  rw [hab] at h
  split at h <;> omega
theorem bad_up {x y : Int} (h : ¬ upQ x y ≤ 4611686018427387904) : prodB x y = false := by
  unfold prodB
  unfold upQ quoW at h
  rw [decide_eq_false_iff_not]
  have hab : (x.natAbs : Int) * y.natAbs = ((x * y).natAbs : Int) := by rw [Int.natAbs_mul]; push_cast; rfl
  rw [hab] at h
  split at h <;> omega


def valW (w : W3) : Int := w.2.1 * 18446744073709551616 + w.2.2
def okW (w : W3) : Prop := 0 ≤ w.2.1 ∧ w.2.1 < 18446744073709551616 ∧ 0 ≤ w.2.2 ∧ w.2.2 < 18446744073709551616
def w_over (x : W3 × Int × Bool) : W3 := (x.1.1 && decide (quoW x.1.1 x.2.2 (valW x.1) > 0), quoW x.1.1 x.2.2 (valW x.1) / 18446744073709551616, quoW x.1.1 x.2.2 (valW x.1) % 18446744073709551616)
def b_over (x : W3 × Int × Bool) : Prop := okW x.1 ∧ x.2.1 = 65536
def w_int (w : W3) : Int × Bool := (if valW w ≤ 4611686018427387904 then (if w.1 then -valW w else valW w) else 0, decide (valW w ≤ 4611686018427387904))
theorem Int2 (h : Good P) (w : W3) (hx : okW w) : PurT P n_armplanref40_Wide_Int [TWide] w [TI, .bool] (w_int w) := by
  refine purT_of_vc h.c_armplanref40_Wide_Int h.m te0 [] trivial 0 no ?_
  refine Eq.mpr (β := cnd (decide ((0 : Int) < w.snd.fst)) (((0 : Int) = (w_int w).fst ∧ false = (w_int w).snd) ∧ True) (cnd (decide ((4611686018427387904 : Int) < w.snd.snd)) (((0 : Int) = (w_int w).fst ∧ false = (w_int w).snd) ∧ True) (cnd w.fst ((IntKind.wrap .i64 ((0 : Int) - IntKind.wrap .i64 w.snd.snd) = (w_int w).fst ∧ true = (w_int w).snd) ∧ True) ((IntKind.wrap .i64 w.snd.snd = (w_int w).fst ∧ true = (w_int w).snd) ∧ True)))) (by kernel_rfl) ?_
  obtain ⟨n, hh, l⟩ := w
  obtain ⟨h1, h2, h3, h4⟩ := hx
  simp only at h1 h2 h3 h4
  unfold w_int valW
  simp only
  refine cnd_dec (fun c => ⟨⟨by rw [if_neg (by omega)], by rw [decide_eq_false (by omega)]⟩, trivial⟩) (fun c => cnd_dec (fun c2 => ⟨⟨by rw [if_neg (by omega)], by rw [decide_eq_false (by omega)]⟩, trivial⟩) (fun c2 => ?_))
  have hz : hh = 0 := by omega
  subst hz
  have e0 : (0 : Int) * 18446744073709551616 + l = l := by omega
  have w1 : IntKind.wrap .i64 l = l := wrap64 (by omega) (by omega)
  have w2 : IntKind.wrap .i64 (0 - l) = -l := by rw [wrap64 (by omega) (by omega)]; omega
  rw [w1, w2, e0, if_pos (by omega), decide_eq_true (by omega)]
  cases n with
  | true => exact ⟨⟨rfl, rfl⟩, trivial⟩
  | false => exact ⟨⟨rfl, rfl⟩, trivial⟩

theorem Len65536 (h : Good P) : PurT P n_math_bits_Len64 [TU] (65536 : Int) [TI] (17 : Int) := by
  refine purT_of_vc h.c_math_bits_Len64 h.m te0 [] trivial 0 no ?_
  exact Eq.mpr (β := (17 : Int) = 17 ∧ True) (by kernel_rfl) ⟨rfl, trivial⟩
theorem Lz65536 (h : Good P) : PurT P n_math_bits_LeadingZeros64 [TU] (65536 : Int) [TI] (47 : Int) := by
  refine purT_of_vc h.c_math_bits_LeadingZeros64 h.m te0 [(n_math_bits_Len64, .fn [TU] [TI] (fun x => x = 65536) (fun _ => 17))] ⟨fun x hx => by have hx : x = 65536 := hx; subst hx; exact Len65536 h, trivial⟩ 0 no ?_
  refine Eq.mpr (β := (65536 : Int) = 65536 ∧ ∀ r : Int, r = 17 → IntKind.wrap .i64 (64 - r) = 47 ∧ True) (by kernel_rfl) ⟨rfl, ?_⟩
  rintro _ rfl
  exact ⟨by decide, trivial⟩
theorem or_add47 (h l : Int) (h0 : 0 ≤ h) (h1 : h < 65536) (l0 : 0 ≤ l) (l1 : l < 140737488355328) :
    IntKind.wrap .u64 ((BitVec.ofInt (IntKind.bits .u64) (IntKind.wrap .u64 (h * 140737488355328)) ||| BitVec.ofInt (IntKind.bits .u64) l).toNat : Int) = h * 140737488355328 + l := by
  rw [wrapU64 (n := h * 140737488355328) (by omega) (by omega)]
  obtain ⟨a, rfl⟩ := Int.eq_ofNat_of_zero_le h0
  obtain ⟨b, rfl⟩ := Int.eq_ofNat_of_zero_le l0
  have e : (BitVec.ofInt (IntKind.bits .u64) ((a : Int) * 140737488355328) ||| BitVec.ofInt (IntKind.bits .u64) (b : Int)).toNat = a * 140737488355328 + b := by
    rw [BitVec.toNat_or]
    show (BitVec.ofInt 64 ((a : Int) * 140737488355328)).toNat ||| (BitVec.ofInt 64 (b : Int)).toNat = _
    rw [show ((a : Int) * 140737488355328) = ((a * 140737488355328 : Nat) : Int) by omega, BitVec.ofInt_natCast, BitVec.ofInt_natCast, BitVec.toNat_ofNat, BitVec.toNat_ofNat, Nat.mod_eq_of_lt (by omega), Nat.mod_eq_of_lt (by omega)]
    have := Nat.shiftLeft_add_eq_or_of_lt (i := 47) (b := b) (by omega) a
    rw [Nat.shiftLeft_eq] at this
    exact this.symm
  rw [e, wrapU64 (by omega) (by omega)]
  omega


def s_div (x : Int × Int × Int) : Int × Int := ((x.1 * 18446744073709551616 + x.2.1) / 65536, x.2.1 % 65536)
def b_div (x : Int × Int × Int) : Prop := 0 ≤ x.1 ∧ x.1 < 65536 ∧ 0 ≤ x.2.1 ∧ x.2.1 < 18446744073709551616 ∧ x.2.2 = 65536
theorem Div2 (h : Good P) (z : Int × Int × Int) (hz : b_div z) : PurT P n_math_bits_Div64 [TU, TU, TU] z [TU, TU] (s_div z) := by
  obtain ⟨hi, l, d⟩ := z
  obtain ⟨h0, h1, l0, l1, hd⟩ := hz
  simp only at h0 h1 l0 l1 hd
  subst hd
  refine purT_of_vc h.c_math_bits_Div64 h.m te0 [(n_math_bits_LeadingZeros64, .fn [TU] [TI] (fun x => x = 65536) (fun _ => 47))] ⟨fun x hx => by have hx : x = 65536 := hx; subst hx; exact Lz65536 h, trivial⟩ 1 (fun d => bif List.elem d [2036, 2039, 2041, 2043, 2051, 2054, 2056, 2058, 2061, 2066, 2093, 2096, 2101, 2072, 2076, 2107] then some ⟨[], []⟩ else none) ?_
  refine Eq.mpr (β := cnd (decide ((65536 : Int) ≤ hi)) False (cnd (decide (hi = (0 : Int))) ((IntKind.wrap .u64 (l.tdiv (65536 : Int)) = (s_div (hi, l, (65536 : Int))).fst ∧ l.tmod (65536 : Int) = (s_div (hi, l, (65536 : Int))).snd) ∧ True) ((65536 : Int) = (65536 : Int) ∧ ∀ r, r = (47 : Int) → ∀ (t : Int), t = IntKind.wrap .u64 r → need ((0 : Int) ≤ t) (∀ (t_1 : Int), t_1 = shlI .u64 (65536 : Int) t → ∀ (t_2 : Int), t_2 = shrI .u64 t_1 (32 : Int) → ∀ (t_3 : Int), t_3 = bandI .u64 t_1 (4294967295 : Int) → need ((0 : Int) ≤ t) (need ((0 : Int) ≤ IntKind.wrap .u64 ((64 : Int) - t)) (∀ (t_4 : Int), t_4 = borI .u64 (shlI .u64 hi t) (shrI .u64 l (IntKind.wrap .u64 ((64 : Int) - t))) → need ((0 : Int) ≤ t) (∀ (t_5 : Int), t_5 = shlI .u64 l t → ∀ (t_6 : Int), t_6 = shrI .u64 t_5 (32 : Int) → ∀ (t_7 : Int), t_7 = bandI .u64 t_5 (4294967295 : Int) → need (t_2 ≠ (0 : Int)) (∀ (t_8 : Int), t_8 = IntKind.wrap .u64 (t_4.tdiv t_2) → ∀ (t_9 : Int), t_9 = IntKind.wrap .u64 (t_4 - IntKind.wrap .u64 (t_8 * t_2)) → cnd (decide ((4294967296 : Int) ≤ t_8)) (cnd (decide ((4294967296 : Int) ≤ IntKind.wrap .u64 (t_9 + t_2))) (∀ (t_10 : Int), t_10 = IntKind.wrap .u64 (IntKind.wrap .u64 (IntKind.wrap .u64 (t_4 * (4294967296 : Int)) + t_6) - IntKind.wrap .u64 (IntKind.wrap .u64 (t_8 - (1 : Int)) * t_1)) → need (t_2 ≠ (0 : Int)) (∀ (t_11 : Int), t_11 = IntKind.wrap .u64 (t_10.tdiv t_2) → ∀ (t_12 : Int), t_12 = IntKind.wrap .u64 (t_10 - IntKind.wrap .u64 (t_11 * t_2)) → cnd (decide ((4294967296 : Int) ≤ t_11)) (cnd (decide ((4294967296 : Int) ≤ IntKind.wrap .u64 (t_12 + t_2))) (need ((0 : Int) ≤ t) ((IntKind.wrap .u64 (IntKind.wrap .u64 (IntKind.wrap .u64 (t_8 - (1 : Int)) * (4294967296 : Int)) + IntKind.wrap .u64 (t_11 - (1 : Int))) = (s_div (hi, l, (65536 : Int))).fst ∧ shrI .u64 (IntKind.wrap .u64 (IntKind.wrap .u64 (IntKind.wrap .u64 (t_10 * (4294967296 : Int)) + t_7) - IntKind.wrap .u64 (IntKind.wrap .u64 (t_11 - (1 : Int)) * t_1))) t = (s_div (hi, l, (65536 : Int))).snd) ∧ True)) False) (∀ (t_13 : Int), t_13 = IntKind.wrap .u64 (t_11 * t_3) → cnd (decide (IntKind.wrap .u64 (IntKind.wrap .u64 ((4294967296 : Int) * t_12) + t_7) < t_13)) (cnd (decide ((4294967296 : Int) ≤ IntKind.wrap .u64 (t_12 + t_2))) (need ((0 : Int) ≤ t) ((IntKind.wrap .u64 (IntKind.wrap .u64 (IntKind.wrap .u64 (t_8 - (1 : Int)) * (4294967296 : Int)) + IntKind.wrap .u64 (t_11 - (1 : Int))) = (s_div (hi, l, (65536 : Int))).fst ∧ shrI .u64 (IntKind.wrap .u64 (IntKind.wrap .u64 (IntKind.wrap .u64 (t_10 * (4294967296 : Int)) + t_7) - IntKind.wrap .u64 (IntKind.wrap .u64 (t_11 - (1 : Int)) * t_1))) t = (s_div (hi, l, (65536 : Int))).snd) ∧ True)) False) (need ((0 : Int) ≤ t) ((IntKind.wrap .u64 (IntKind.wrap .u64 (IntKind.wrap .u64 (t_8 - (1 : Int)) * (4294967296 : Int)) + t_11) = (s_div (hi, l, (65536 : Int))).fst ∧ shrI .u64 (IntKind.wrap .u64 (IntKind.wrap .u64 (IntKind.wrap .u64 (t_10 * (4294967296 : Int)) + t_7) - IntKind.wrap .u64 (t_11 * t_1))) t = (s_div (hi, l, (65536 : Int))).snd) ∧ True))))) False) (∀ (t_10 : Int), t_10 = IntKind.wrap .u64 (t_8 * t_3) → ∀ (t_11 : Int), t_11 = IntKind.wrap .u64 (IntKind.wrap .u64 ((4294967296 : Int) * t_9) + t_6) → cnd (decide (t_11 < t_10)) (cnd (decide ((4294967296 : Int) ≤ IntKind.wrap .u64 (t_9 + t_2))) (∀ (t_12 : Int), t_12 = IntKind.wrap .u64 (IntKind.wrap .u64 (IntKind.wrap .u64 (t_4 * (4294967296 : Int)) + t_6) - IntKind.wrap .u64 (IntKind.wrap .u64 (t_8 - (1 : Int)) * t_1)) → need (t_2 ≠ (0 : Int)) (∀ (t_13 : Int), t_13 = IntKind.wrap .u64 (t_12.tdiv t_2) → ∀ (t_14 : Int), t_14 = IntKind.wrap .u64 (t_12 - IntKind.wrap .u64 (t_13 * t_2)) → cnd (decide ((4294967296 : Int) ≤ t_13)) (cnd (decide ((4294967296 : Int) ≤ IntKind.wrap .u64 (t_14 + t_2))) (need ((0 : Int) ≤ t) ((IntKind.wrap .u64 (IntKind.wrap .u64 (IntKind.wrap .u64 (t_8 - (1 : Int)) * (4294967296 : Int)) + IntKind.wrap .u64 (t_13 - (1 : Int))) = (s_div (hi, l, (65536 : Int))).fst ∧ shrI .u64 (IntKind.wrap .u64 (IntKind.wrap .u64 (IntKind.wrap .u64 (t_12 * (4294967296 : Int)) + t_7) - IntKind.wrap .u64 (IntKind.wrap .u64 (t_13 - (1 : Int)) * t_1))) t = (s_div (hi, l, (65536 : Int))).snd) ∧ True)) False) (∀ (t_15 : Int), t_15 = IntKind.wrap .u64 (t_13 * t_3) → cnd (decide (IntKind.wrap .u64 (IntKind.wrap .u64 ((4294967296 : Int) * t_14) + t_7) < t_15)) (cnd (decide ((4294967296 : Int) ≤ IntKind.wrap .u64 (t_14 + t_2))) (need ((0 : Int) ≤ t) ((IntKind.wrap .u64 (IntKind.wrap .u64 (IntKind.wrap .u64 (t_8 - (1 : Int)) * (4294967296 : Int)) + IntKind.wrap .u64 (t_13 - (1 : Int))) = (s_div (hi, l, (65536 : Int))).fst ∧ shrI .u64 (IntKind.wrap .u64 (IntKind.wrap .u64 (IntKind.wrap .u64 (t_12 * (4294967296 : Int)) + t_7) - IntKind.wrap .u64 (IntKind.wrap .u64 (t_13 - (1 : Int)) * t_1))) t = (s_div (hi, l, (65536 : Int))).snd) ∧ True)) False) (need ((0 : Int) ≤ t) ((IntKind.wrap .u64 (IntKind.wrap .u64 (IntKind.wrap .u64 (t_8 - (1 : Int)) * (4294967296 : Int)) + t_13) = (s_div (hi, l, (65536 : Int))).fst ∧ shrI .u64 (IntKind.wrap .u64 (IntKind.wrap .u64 (IntKind.wrap .u64 (t_12 * (4294967296 : Int)) + t_7) - IntKind.wrap .u64 (t_13 * t_1))) t = (s_div (hi, l, (65536 : Int))).snd) ∧ True))))) False) (∀ (t_12 : Int), t_12 = IntKind.wrap .u64 (IntKind.wrap .u64 (IntKind.wrap .u64 (t_4 * (4294967296 : Int)) + t_6) - IntKind.wrap .u64 (t_8 * t_1)) → need (t_2 ≠ (0 : Int)) (∀ (t_13 : Int), t_13 = IntKind.wrap .u64 (t_12.tdiv t_2) → ∀ (t_14 : Int), t_14 = IntKind.wrap .u64 (t_12 - IntKind.wrap .u64 (t_13 * t_2)) → cnd (decide ((4294967296 : Int) ≤ t_13)) (cnd (decide ((4294967296 : Int) ≤ IntKind.wrap .u64 (t_14 + t_2))) (need ((0 : Int) ≤ t) ((IntKind.wrap .u64 (IntKind.wrap .u64 (t_8 * (4294967296 : Int)) + IntKind.wrap .u64 (t_13 - (1 : Int))) = (s_div (hi, l, (65536 : Int))).fst ∧ shrI .u64 (IntKind.wrap .u64 (IntKind.wrap .u64 (IntKind.wrap .u64 (t_12 * (4294967296 : Int)) + t_7) - IntKind.wrap .u64 (IntKind.wrap .u64 (t_13 - (1 : Int)) * t_1))) t = (s_div (hi, l, (65536 : Int))).snd) ∧ True)) False) (∀ (t_15 : Int), t_15 = IntKind.wrap .u64 (t_13 * t_3) → cnd (decide (IntKind.wrap .u64 (IntKind.wrap .u64 ((4294967296 : Int) * t_14) + t_7) < t_15)) (cnd (decide ((4294967296 : Int) ≤ IntKind.wrap .u64 (t_14 + t_2))) (need ((0 : Int) ≤ t) ((IntKind.wrap .u64 (IntKind.wrap .u64 (t_8 * (4294967296 : Int)) + IntKind.wrap .u64 (t_13 - (1 : Int))) = (s_div (hi, l, (65536 : Int))).fst ∧ shrI .u64 (IntKind.wrap .u64 (IntKind.wrap .u64 (IntKind.wrap .u64 (t_12 * (4294967296 : Int)) + t_7) - IntKind.wrap .u64 (IntKind.wrap .u64 (t_13 - (1 : Int)) * t_1))) t = (s_div (hi, l, (65536 : Int))).snd) ∧ True)) False) (need ((0 : Int) ≤ t) ((IntKind.wrap .u64 (IntKind.wrap .u64 (t_8 * (4294967296 : Int)) + t_13) = (s_div (hi, l, (65536 : Int))).fst ∧ shrI .u64 (IntKind.wrap .u64 (IntKind.wrap .u64 (IntKind.wrap .u64 (t_12 * (4294967296 : Int)) + t_7) - IntKind.wrap .u64 (t_13 * t_1))) t = (s_div (hi, l, (65536 : Int))).snd) ∧ True)))))))))))))) (by kernel_rfl) ?_
  refine cnd_dec (fun c => by omega) (fun c => cnd_dec (fun g0 => fin2 ?_) (fun g0 => ⟨rfl, ?_⟩))
  · subst g0
    unfold s_div
    simp only
    rw [Int.tdiv_eq_ediv_of_nonneg l0, Int.tmod_eq_emod_of_nonneg l0, wrapU64 (by omega) (by omega)]
    simp
  rintro _ rfl
  rintro t e
  have e : t = 47 := e
  subst e
  refine need_i (by decide) ?_
  rintro Y e
  have e : Y = 9223372036854775808 := e.trans (by decide)
  subst e
  rintro yn1 e
  have e : yn1 = 2147483648 := e.trans (by decide)
  subst e
  rintro yn0 e
  have e : yn0 = 0 := e.trans (by decide)
  subst e
  refine need_i (by decide) (need_i (by decide) ?_)
  obtain ⟨A, hA⟩ : ∃ A, A = l / 131072 := ⟨_, rfl⟩
  obtain ⟨B, hB⟩ : ∃ B, B = (l % 131072) * 140737488355328 := ⟨_, rfl⟩
  obtain ⟨U1, hU1⟩ : ∃ U1, U1 = (l % 131072) * 32768 := ⟨_, rfl⟩
  obtain ⟨U, hU⟩ : ∃ U, U = hi * 140737488355328 + A := ⟨_, rfl⟩
  obtain ⟨q1, hq1⟩ : ∃ q, q = U / 2147483648 := ⟨_, rfl⟩
  obtain ⟨rh, hrh⟩ : ∃ q, q = U % 2147483648 := ⟨_, rfl⟩
  obtain ⟨X, hX⟩ : ∃ q, q = rh * 4294967296 + U1 := ⟨_, rfl⟩
  obtain ⟨q0, hq0⟩ : ∃ q, q = X / 2147483648 := ⟨_, rfl⟩
  obtain ⟨r0, hr0⟩ : ∃ q, q = X % 2147483648 := ⟨_, rfl⟩
  rintro t4 e
  have e : t4 = U := by
    have h64 : IntKind.wrap .u64 ((64 : Int) - 47) = 17 := by decide
    rw [e, h64, sl47, sh17, ← hA, hU]
    exact or_add47 hi A h0 h1 (by omega) (by omega)
  subst e
  refine need_i (by decide) ?_
  rintro t5 e
  have e : t5 = B := by rw [e, sl47, wrapU64_mod, hB]; omega
  subst e
  rintro t6 e
  have e : t6 = U1 := by rw [e, sh32]; omega
  subst e
  rintro t7 e
  have e : t7 = 0 := by
    have a1 : bandI .u64 t5 4294967295 = t5 % 4294967296 := and_mask t5 32 (by omega) (by omega) (by omega) 4294967295 (by decide)
    rw [e, a1]; omega
  subst e
  refine need_i (by decide) ?_
  rintro t8 e
  have e : t8 = q1 := by rw [e, Int.tdiv_eq_ediv_of_nonneg (by omega), wrapU64 (by omega) (by omega), hq1]
  subst e
  rintro t9 e
  have e : t9 = rh := by rw [e, wrapU64_mod, wrapU64_mod]; omega
  subst e
  refine cnd_dec (fun c => by omega) (fun c => ?_)
  rintro t10 e
  have e : t10 = 0 := by rw [e, Int.mul_zero]; decide
  subst e
  rintro t11 e
  have hn : 0 ≤ t11 := by rw [e, wrapU64_mod]; omega
  refine cnd_dec (fun c => by omega) (fun c => ?_)
  rintro t12 e
  have e : t12 = X := by rw [e]; simp only [wrapU64_mod]; omega
  subst e
  refine need_i (by decide) ?_
  rintro t13 e
  have e : t13 = q0 := by rw [e, Int.tdiv_eq_ediv_of_nonneg (by omega), wrapU64 (by omega) (by omega), hq0]
  subst e
  rintro t14 e
  have e : t14 = r0 := by rw [e, wrapU64_mod, wrapU64_mod]; omega
  subst e
  refine cnd_dec (fun c => by omega) (fun c => ?_)
  rintro t15 e
  have e : t15 = 0 := by rw [e, Int.mul_zero]; decide
  subst e
  refine cnd_dec (fun c => by rw [wrapU64_mod] at c; omega) (fun c => need_i (by decide) (fin2 ?_))
  have s47 : ∀ x : Int, shrI .u64 x 47 = x / 140737488355328 := fun x => shr_n x 47 _ (by decide) (by decide)
  rw [s47]
  unfold s_div
  simp only [wrapU64_mod, Prod.mk.injEq]
  refine ⟨?_, ?_⟩ <;> omega

structure AddC (P : Program) : Prop where
  ok : ∀ {x y c : Int}, 0 ≤ x → 0 ≤ y → 0 ≤ c → c ≤ 1 → Pur P n_math_bits_Add64 [.int .u64 x, .int .u64 y, .int .u64 c] (.tuple #[.int .u64 ((x + y + c) % 18446744073709551616), .int .u64 ((x + y + c) / 18446744073709551616)])
def s_add (x : Int × Int × Int) : Int × Int := ((x.1 + x.2.1 + x.2.2) % 18446744073709551616, (x.1 + x.2.1 + x.2.2) / 18446744073709551616)
def b_add (x : Int × Int × Int) : Prop := 0 ≤ x.1 ∧ 0 ≤ x.2.1 ∧ 0 ≤ x.2.2 ∧ x.2.2 ≤ 1
theorem Over2 (h : Good P) (c3 : AddC P) (x : W3 × Int × Bool) (hx : b_over x) : PurT P n_armplanref40_Wide_Over [TWide, TU, .bool] x [TWide] (w_over x) := by
  obtain ⟨⟨neg, H, L⟩, d, u⟩ := x
  obtain ⟨⟨h1, h2, h3, h4⟩, h5⟩ := hx
  simp only at h1 h2 h3 h4 h5
  subst h5
  refine purT_of_vc h.c_armplanref40_Wide_Over h.m te0 [(n_math_bits_Div64, .fn [TU, TU, TU] [TU, TU] b_div s_div), (n_math_bits_Add64, .fn [TU, TU, TU] [TU, TU] b_add s_add)] ⟨Div2 h, fun x hx => c3.ok hx.1 hx.2.1 hx.2.2.1 hx.2.2.2, trivial⟩ 0 no ?_
  refine Eq.mpr (β := b_div (H.tmod (65536 : Int), L, (65536 : Int)) ∧ ∀ r, r = s_div (H.tmod (65536 : Int), L, (65536 : Int)) → cnd (decide ((0 : Int) < r.snd)) (cnd (!u == neg) (b_add (r.fst, (1 : Int), (0 : Int)) ∧ ∀ r_1, r_1 = s_add (r.fst, (1 : Int), (0 : Int)) → cnd neg ((decide ((0 : Int) < borI .u64 (IntKind.wrap .u64 (IntKind.wrap .u64 (H.tdiv (65536 : Int)) + r_1.snd)) r_1.fst), IntKind.wrap .u64 (IntKind.wrap .u64 (H.tdiv (65536 : Int)) + r_1.snd), r_1.fst) = w_over ((neg, H, L), (65536 : Int), u) ∧ True) ((false, IntKind.wrap .u64 (IntKind.wrap .u64 (H.tdiv (65536 : Int)) + r_1.snd), r_1.fst) = w_over ((neg, H, L), (65536 : Int), u) ∧ True)) (cnd neg ((decide ((0 : Int) < borI .u64 (IntKind.wrap .u64 (H.tdiv (65536 : Int))) r.fst), IntKind.wrap .u64 (H.tdiv (65536 : Int)), r.fst) = w_over ((neg, H, L), (65536 : Int), u) ∧ True) ((false, IntKind.wrap .u64 (H.tdiv (65536 : Int)), r.fst) = w_over ((neg, H, L), (65536 : Int), u) ∧ True))) (cnd neg ((decide ((0 : Int) < borI .u64 (IntKind.wrap .u64 (H.tdiv (65536 : Int))) r.fst), IntKind.wrap .u64 (H.tdiv (65536 : Int)), r.fst) = w_over ((neg, H, L), (65536 : Int), u) ∧ True) ((false, IntKind.wrap .u64 (H.tdiv (65536 : Int)), r.fst) = w_over ((neg, H, L), (65536 : Int), u) ∧ True))) (by kernel_rfl) ?_
  obtain ⟨V, hV⟩ : ∃ V, V = H * 18446744073709551616 + L := ⟨_, rfl⟩
  refine ⟨⟨?_, ?_, h3, h4, rfl⟩, ?_⟩
  · simp only; rw [Int.tmod_eq_emod_of_nonneg h1]; omega
  · simp only; rw [Int.tmod_eq_emod_of_nonneg h1]; omega
  rintro r e
  have e : r = ((H % 65536 * 18446744073709551616 + L) / 65536, L % 65536) := by rw [e, Int.tmod_eq_emod_of_nonneg h1]; rfl
  subst e
  simp only
  have wq : IntKind.wrap .u64 (Int.tdiv H 65536) = H / 65536 := by rw [Int.tdiv_eq_ediv_of_nonneg h1, wrapU64 (by omega) (by omega)]
  rw [wq]
  have noc : ∀ hnc : quoW neg u V = V / 65536, cnd neg ((decide ((0 : Int) < borI .u64 (H / 65536) ((H % 65536 * 18446744073709551616 + L) / 65536)), H / 65536, (H % 65536 * 18446744073709551616 + L) / 65536) = w_over ((neg, H, L), 65536, u) ∧ True) ((false, H / 65536, (H % 65536 * 18446744073709551616 + L) / 65536) = w_over ((neg, H, L), 65536, u) ∧ True) := by
    intro hnc
    have e1 : w_over ((neg, H, L), 65536, u) = (neg && decide (V / 65536 > 0), H / 65536, (H % 65536 * 18446744073709551616 + L) / 65536) := by
      unfold w_over valW
      simp only [← hV, hnc, Prod.mk.injEq, true_and]
      omega
    have e2 : (decide ((0 : Int) < borI .u64 (H / 65536) ((H % 65536 * 18446744073709551616 + L) / 65536))) = decide (V / 65536 > 0) := by
      rw [or_pos2 (by omega) (by omega) (by omega) (by omega)]
      congr 1; apply propext; constructor <;> intro _ <;> omega
    rw [e1, e2]
    cases neg with
    | true => exact tr rfl
    | false => exact tr rfl
  have hr : V % 65536 = L % 65536 := by omega
  refine cnd_dec (fun c => ?_) (fun c => noc (by unfold quoW; rw [hr, decide_eq_false (by omega)]; simp))
  refine cnd_i (fun c2 => ⟨⟨by simp only; omega, by simp only; omega, by simp only; omega, by simp only; omega⟩, ?_⟩) (fun c2 => noc (by
    unfold quoW
    have : (u != neg) = false := c2
    rw [this]; simp))
  rintro r e
  have e : r = (((H % 65536 * 18446744073709551616 + L) / 65536 + 1 + 0) % 18446744073709551616, ((H % 65536 * 18446744073709551616 + L) / 65536 + 1 + 0) / 18446744073709551616) := e
  subst e
  simp only
  have hq : quoW neg u V = V / 65536 + 1 := by
    unfold quoW
    have : (u != neg) = true := c2
    rw [this, hr, decide_eq_true (by omega)]; simp
  have ww : IntKind.wrap .u64 (H / 65536 + ((H % 65536 * 18446744073709551616 + L) / 65536 + 1 + 0) / 18446744073709551616) = (V / 65536 + 1) / 18446744073709551616 := by
    rw [wrapU64 (by omega) (by omega)]; omega
  have wl : ((H % 65536 * 18446744073709551616 + L) / 65536 + 1 + 0) % 18446744073709551616 = (V / 65536 + 1) % 18446744073709551616 := by omega
  rw [ww, wl]
  have e1 : w_over ((neg, H, L), 65536, u) = (neg && decide (V / 65536 + 1 > 0), (V / 65536 + 1) / 18446744073709551616, (V / 65536 + 1) % 18446744073709551616) := by
    unfold w_over valW
    simp only [← hV, hq]
  have e2 : (decide ((0 : Int) < borI .u64 ((V / 65536 + 1) / 18446744073709551616) ((V / 65536 + 1) % 18446744073709551616))) = decide (V / 65536 + 1 > 0) := by
    rw [or_pos2 (by omega) (by omega) (by omega) (by omega)]
    congr 1; apply propext; constructor <;> intro _ <;> omega
  rw [e1, e2]
  cases neg with
  | true => exact tr rfl
  | false => exact tr rfl
end Go.Bx.S

