/-
  A part of the proof: Dy S8.
-/
import Derived.Test.YtklmapfmilefhaaGreatDyS7
import Derived.Test.YtklmapfmilefhaaGreatDyS6
set_option linter.unusedSimpArgs false
set_option linter.unusedVariables false
set_option linter.unusedSectionVars false
namespace Go.Ax.Dy
open Go Go.Ax
variable {P : Program}

theorem pure_of {X : CallF} (hX : SndF P X) (hA : Ok P A) (hm : P.follows .mixedOrders = true) {n : Nat} {f : FuncId} {args : List Value} {v : Value} (ha : args.all flat1 = true) (hv : flatV v = true)
    (h : EvF X A n f args AHeap.empty (fun v' _ => v' = v)) : Pure P f args v := by
  obtain ⟨v', σ', h1, rfl⟩ := h
  exact ⟨ha, hv, stepF X A n, stepF_sound hA hm hX n, σ', h1⟩

def noX : CallF := fun _ _ _ => none
theorem noX_sound : SndF P noX := fun f args σ v σ' h => by cases h

/-- A call that is known, with what is known of its result. -/
noncomputable def Known (P : Program) (S : FuncId → List Value → Value → Prop) (f : FuncId) (args : List Value) : Option Value :=
  open Classical in if h : ∃ v, Pure P f args v ∧ S f args v then some (Classical.choose h) else none
theorem known_pure {S : FuncId → List Value → Value → Prop} : ∀ f args v, Known P S f args = some v → Pure P f args v := by
  intro f args v h
  unfold Known at h
  split at h
  · rename_i hx
    cases h
    exact (Classical.choose_spec hx).1
  · cases h
theorem known_some {S : FuncId → List Value → Value → Prop} {f : FuncId} {args : List Value} (h : ∃ v, Pure P f args v ∧ S f args v) : ∃ v, S f args v ∧ ∀ σ, pureX (Known P S) f args σ = some (v, σ) := by
  refine ⟨Classical.choose h, (Classical.choose_spec h).2, fun σ => ?_⟩
  unfold pureX Known
  rw [dif_pos h]
  rfl

/-- What is known of the functions' results. -/
def Spec (f : FuncId) (args : List Value) (v : Value) : Prop :=
  (f = 8 → ∀ n k, args = [.int .i64 n, .int .i64 k] → v = .int .i64 (n % k)) ∧
  (f = 31 → ∀ a, args = [.int .i64 a] → v = .int .i64 (clampI a)) ∧
  (f = 16 → ∀ lo hi, args = [rng lo hi] → v = .bool (smallB lo hi)) ∧
  (f = 9 → ∀ a b c d, args = [rng a b, rng c d] → v = .bool (decide (c ≤ a) && decide (a ≤ b) && decide (b ≤ d))) ∧
  (f = 32 → ∀ x y, args = [.int .u64 x, .int .u64 y] → v = .tuple #[.int .u64 (x * y / 18446744073709551616), .int .u64 (x * y % 18446744073709551616)]) ∧
  (f = 17 → ∀ x y, args = [.int .i64 x, .int .i64 y] → v = .tuple #[.int .i64 (if prodB x y then dn x y else 0), .int .i64 (if prodB x y then up x y else 0), .bool (prodB x y)]) ∧
  (f = 7 → ∀ a b c d, args = [rng a b, rng c d] → v = .tuple #[if addB a b c d then rng (a + c) (b + d) else rng 0 0, .bool (addB a b c d)]) ∧
  (f = 6 → ∀ a b c d, args = [rng a b, rng c d] → v = .tuple #[if mulB a b c d then rng (mulLo a b c d) (mulHi a b c d) else rng 0 0, .bool (mulB a b c d)]) ∧
  (f = 15 → ∃ lo hi, v = rng lo hi ∧ lo ≤ hi ∧ -2147483648 ≤ lo ∧ hi ≤ 2147483648) ∧
  (f = 5 → ∃ lo hi, v = rng lo hi ∧ lo ≤ hi ∧ -1152921504606846976 ≤ lo ∧ hi ≤ 1152921504606846976 + 511) ∧
  (f = 10 → v = .bool true)

noncomputable abbrev X (P : Program) : CallF := pureX (Known P Spec)
theorem X_sound : SndF P (X P) := pureX_sound known_pure

theorem rng_flat (a b : Int) : flat1 (rng a b) = true := rfl
theorem rng_inj {a b c d : Int} (h : rng a b = rng c d) : a = c ∧ b = d := by
  unfold rng at h
  simp only [Value.agg.injEq, Array.mk.injEq, List.cons.injEq, Value.int.injEq, true_and, and_true] at h
  exact h

section
variable (hA : Ok P A) (hm : P.follows .mixedOrders = true)
include hA hm

theorem x8 (n k : Int) (σ : AHeap) (h0 : 0 < k) (h1 : k ≤ 4611686018427387904) : X P 8 [.int .i64 n, .int .i64 k] σ = some (.int .i64 (n % k), σ) := by
  obtain ⟨v, hv, hx⟩ := known_some (S := Spec) ⟨_, pure_of noX_sound hA hm (n := 0) rfl rfl (round_ev noX 0 n k h0 h1), by
    refine ⟨fun _ n' k' e => ?_, ?_⟩
    · simp only [List.cons.injEq, Value.int.injEq, true_and, and_true] at e; rw [e.1, e.2]
    · simp⟩
  have e := hv.1 rfl n k rfl
  rw [e] at hx
  exact hx σ
theorem x31 (a : Int) (σ : AHeap) : X P 31 [.int .i64 a] σ = some (.int .i64 (clampI a), σ) := by
  obtain ⟨v, hv, hx⟩ := known_some (S := Spec) ⟨_, pure_of noX_sound hA hm (n := 0) rfl rfl (clamp_ev noX 0 a), by
    refine ⟨by simp, fun _ a' e => ?_, ?_⟩
    · simp only [List.cons.injEq, Value.int.injEq, true_and, and_true] at e; rw [e]
    · simp⟩
  have e := hv.2.1 rfl a rfl
  rw [e] at hx
  exact hx σ
theorem x16 (lo hi : Int) (σ : AHeap) : X P 16 [rng lo hi] σ = some (.bool (smallB lo hi), σ) := by
  obtain ⟨v, hv, hx⟩ := known_some (S := Spec) ⟨_, pure_of noX_sound hA hm (n := 0) rfl rfl (small_ev noX 0 lo hi), by
    refine ⟨by simp, by simp, fun _ a b e => ?_, ?_⟩
    · simp only [List.cons.injEq, and_true] at e; obtain ⟨rfl, rfl⟩ := rng_inj e; rfl
    · simp⟩
  have e := hv.2.2.1 rfl lo hi rfl
  rw [e] at hx
  exact hx σ
theorem x9 (a b c d : Int) (σ : AHeap) : X P 9 [rng a b, rng c d] σ = some (.bool (decide (c ≤ a) && decide (a ≤ b) && decide (b ≤ d)), σ) := by
  obtain ⟨v, hv, hx⟩ := known_some (S := Spec) ⟨_, pure_of noX_sound hA hm (n := 0) rfl rfl (within_ev noX 0 a b c d), by
    refine ⟨by simp, by simp, by simp, fun _ a' b' c' d' e => ?_, ?_⟩
    · simp only [List.cons.injEq, and_true] at e
      obtain ⟨rfl, rfl⟩ := rng_inj e.1; obtain ⟨rfl, rfl⟩ := rng_inj e.2; rfl
    · simp⟩
  have e := hv.2.2.2.1 rfl a b c d rfl
  rw [e] at hx
  exact hx σ
theorem x32 (x y : Int) (σ : AHeap) (hx0 : 0 ≤ x) (hx1 : x ≤ 18446744073709551615) (hy0 : 0 ≤ y) (hy1 : y ≤ 18446744073709551615) :
    X P 32 [.int .u64 x, .int .u64 y] σ = some (.tuple #[.int .u64 (x * y / 18446744073709551616), .int .u64 (x * y % 18446744073709551616)], σ) := by
  obtain ⟨v, hv, hx⟩ := known_some (S := Spec) ⟨_, pure_of noX_sound hA hm (n := 0) rfl rfl (mul64_ev noX 0 x y hx0 hx1 hy0 hy1), by
    refine ⟨by simp, by simp, by simp, by simp, fun _ a' b' e => ?_, ?_⟩
    · simp only [List.cons.injEq, Value.int.injEq, true_and, and_true] at e; rw [e.1, e.2]
    · simp⟩
  have e := hv.2.2.2.2.1 rfl x y rfl
  rw [e] at hx
  exact hx σ
theorem x17 (x y : Int) (σ : AHeap) (h0 : -1152921504606846976 ≤ x ∧ x ≤ 1152921504606846976) (h1 : -1152921504606846976 ≤ y ∧ y ≤ 1152921504606846976) :
    X P 17 [.int .i64 x, .int .i64 y] σ = some (.tuple #[.int .i64 (if prodB x y then dn x y else 0), .int .i64 (if prodB x y then up x y else 0), .bool (prodB x y)], σ) := by
  obtain ⟨v, hv, hx⟩ := known_some (S := Spec) ⟨_, pure_of X_sound hA hm (n := 0) rfl rfl (product_ev (X P) 0 (x32 hA hm) x y h0 h1), by
    refine ⟨by simp, by simp, by simp, by simp, by simp, fun _ a' b' e => ?_, ?_⟩
    · simp only [List.cons.injEq, Value.int.injEq, true_and, and_true] at e; rw [e.1, e.2]
    · simp⟩
  have e := hv.2.2.2.2.2.1 rfl x y rfl
  rw [e] at hx
  exact hx σ
theorem x7 (a b c d : Int) (σ : AHeap) : X P 7 [rng a b, rng c d] σ = some (.tuple #[if addB a b c d then rng (a + c) (b + d) else rng 0 0, .bool (addB a b c d)], σ) := by
  have hf : flatV (.tuple #[if addB a b c d then rng (a + c) (b + d) else rng 0 0, .bool (addB a b c d)]) = true := by cases addB a b c d <;> rfl
  obtain ⟨v, hv, hx⟩ := known_some (S := Spec) ⟨_, pure_of X_sound hA hm (n := 0) rfl hf (add_ev (X P) 0 (x16 hA hm) a b c d), by
    refine ⟨by simp, by simp, by simp, by simp, by simp, by simp, fun _ a' b' c' d' e => ?_, ?_⟩
    · simp only [List.cons.injEq, and_true] at e
      obtain ⟨rfl, rfl⟩ := rng_inj e.1; obtain ⟨rfl, rfl⟩ := rng_inj e.2; rfl
    · simp⟩
  have e := hv.2.2.2.2.2.2.1 rfl a b c d rfl
  rw [e] at hx
  exact hx σ
theorem x6 (a b c d : Int) (σ : AHeap) : X P 6 [rng a b, rng c d] σ = some (.tuple #[if mulB a b c d then rng (mulLo a b c d) (mulHi a b c d) else rng 0 0, .bool (mulB a b c d)], σ) := by
  have hf : flatV (.tuple #[if mulB a b c d then rng (mulLo a b c d) (mulHi a b c d) else rng 0 0, .bool (mulB a b c d)]) = true := by cases mulB a b c d <;> rfl
  obtain ⟨v, hv, hx⟩ := known_some (S := Spec) ⟨_, pure_of X_sound hA hm (n := 0 + 5) rfl hf (mul_ev (X P) 0 (x16 hA hm) (fun x y σ h0 h1 => x17 hA hm x y σ h0 h1) a b c d), by
    refine ⟨by simp, by simp, by simp, by simp, by simp, by simp, by simp, fun _ a' b' c' d' e => ?_, ?_⟩
    · simp only [List.cons.injEq, and_true] at e
      obtain ⟨rfl, rfl⟩ := rng_inj e.1; obtain ⟨rfl, rfl⟩ := rng_inj e.2; rfl
    · simp⟩
  have e := hv.2.2.2.2.2.2.2.1 rfl a b c d rfl
  rw [e] at hx
  exact hx σ
theorem x15 (a b : Int) : ∃ lo hi, (∀ σ, X P 15 [.int .i64 a, .int .i64 b] σ = some (rng lo hi, σ)) ∧ lo ≤ hi ∧ -2147483648 ≤ lo ∧ hi ≤ 2147483648 := by
  obtain ⟨_, σ', h1, lo, hi, rfl, h2⟩ := interval_ev (X P) 0 (fun n k σ h0 h1 => x8 hA hm n k σ h0 h1) (x31 hA hm) a b
  obtain ⟨v, hv, hx⟩ := known_some (S := Spec) (f := 15) (args := [.int .i64 a, .int .i64 b]) ⟨rng lo hi, ⟨rfl, rfl, _, stepF_sound hA hm X_sound 0, σ', h1⟩, by
    refine ⟨by simp, by simp, by simp, by simp, by simp, by simp, by simp, by simp, fun _ => ⟨lo, hi, rfl, h2⟩, by simp, by simp⟩⟩
  obtain ⟨lo', hi', rfl, h3⟩ := hv.2.2.2.2.2.2.2.2.1 rfl
  exact ⟨lo', hi', hx, h3⟩
theorem x5 (a b c : Int) : ∃ lo hi, (∀ σ, X P 5 [.int .i64 a, .int .i64 b, .int .i64 c] σ = some (rng lo hi, σ)) ∧ lo ≤ hi ∧ -1152921504606846976 ≤ lo ∧ hi ≤ 1152921504606846976 + 511 := by
  obtain ⟨_, σ', h1, lo, hi, rfl, h2⟩ := some_ev (X P) 0 (fun n k σ h0 h1 => x8 hA hm n k σ h0 h1) a b c (x15 hA hm a b)
  obtain ⟨v, hv, hx⟩ := known_some (S := Spec) (f := 5) (args := [.int .i64 a, .int .i64 b, .int .i64 c]) ⟨rng lo hi, ⟨rfl, rfl, _, stepF_sound hA hm X_sound 0, σ', h1⟩, by
    refine ⟨by simp, by simp, by simp, by simp, by simp, by simp, by simp, by simp, by simp, fun _ => ⟨lo, hi, rfl, h2⟩, by simp⟩⟩
  obtain ⟨lo', hi', rfl, h3⟩ := hv.2.2.2.2.2.2.2.2.2.1 rfl
  exact ⟨lo', hi', hx, h3⟩
theorem x10 (haw : Pure P 10 [] (.bool true)) (σ : AHeap) : X P 10 [] σ = some (.bool true, σ) := by
  obtain ⟨v, hv, hx⟩ := known_some (S := Spec) ⟨_, haw, by
    refine ⟨by simp, by simp, by simp, by simp, by simp, by simp, by simp, by simp, by simp, by simp, fun _ => rfl⟩⟩
  have e := hv.2.2.2.2.2.2.2.2.2.2 rfl
  rw [e] at hx
  exact hx σ

/-- The law, at the model: it returns true and keeps all that was there. -/
theorem encloses_pure (haw : Pure P 10 [] (.bool true)) (a b c d i j e f : Int) : Pure P 3 [.int .i64 a, .int .i64 b, .int .i64 c, .int .i64 d, .int .i64 i, .int .i64 j, .int .i64 e, .int .i64 f] (.bool true) :=
  pure_of X_sound hA hm (n := 0) rfl rfl (encloses_ev (X P) 0 (fun n k σ h0 h1 => x8 hA hm n k σ h0 h1) (x5 hA hm) (x6 hA hm) (x7 hA hm) (x9 hA hm) (x10 hA hm haw) a b c d i j e f)
end
end Go.Ax.Dy
