/-
  Ranges: the sums and products of both sides.
-/
import Derived.Test.YtcifmjnfigcpmaaGreatSV
import Derived.Test.YtcifmjnfigcpmaaGreatBxF
set_option linter.unusedSimpArgs false
set_option linter.unusedVariables false
set_option linter.unusedSectionVars false
namespace Go.Bx.S
open Go Go.Bx
set_option maxRecDepth 10000
variable {P : Program}

def small (r : R2) : Bool := decide (-1152921504606846976 ≤ r.1) && (decide (r.1 ≤ r.2) && decide (r.2 ≤ 1152921504606846976))
theorem isSmall2 (h : Good P) (r : R2) : PurT P n_dynamics_isSmall [TRange] r [.bool] (small r) := by
  refine purT_of_vc h.c_dynamics_isSmall h.m te0 [] trivial 0 no ?_
  show cnd (decide (-1152921504606846976 ≤ r.1)) (cnd (decide (r.1 ≤ r.2)) (decide (r.2 ≤ 1152921504606846976) = small r ∧ True) (false = small r ∧ True)) (false = small r ∧ True)
  unfold small
  refine cnd_dec (fun h => cnd_dec (fun h2 => ?_) fun h2 => ?_) fun h => ?_ <;> simp [h, *]
theorem Small2 (h : Good P) (r : R2) : PurT P n_armplanref40_Small [TRange] r [.bool] (small r) := by
  refine purT_of_vc h.c_armplanref40_Small h.m te0 [] trivial 0 no ?_
  show cnd (decide (-1152921504606846976 ≤ r.1)) (cnd (decide (r.1 ≤ r.2)) (decide (r.2 ≤ 1152921504606846976) = small r ∧ True) (false = small r ∧ True)) (false = small r ∧ True)
  unfold small
  refine cnd_dec (fun h => cnd_dec (fun h2 => ?_) fun h2 => ?_) fun h => ?_ <;> simp [h, *]

def add (a b : R2) : R2 × Bool := if small a && small b && small (a.1 + b.1, a.2 + b.2) then ((a.1 + b.1, a.2 + b.2), true) else ((0, 0), false)
theorem small_b {a : R2} (h : small a = true) : -1152921504606846976 ≤ a.1 ∧ a.1 ≤ a.2 ∧ a.2 ≤ 1152921504606846976 := by
  simp only [small, Bool.and_eq_true, decide_eq_true_eq] at h; exact h
theorem add_w {a b : R2} (ha : small a = true) (hb : small b = true) : IntKind.wrap .i64 (a.1 + b.1) = a.1 + b.1 ∧ IntKind.wrap .i64 (a.2 + b.2) = a.2 + b.2 := by
  have h1 := small_b ha
  have h2 := small_b hb
  exact ⟨wrap64 (by omega) (by omega), wrap64 (by omega) (by omega)⟩
theorem nt {b : Bool} (h : (!b) = true) : b = false := by cases b <;> simp_all
theorem nf {b : Bool} (h : (!b) = false) : b = true := by cases b <;> simp_all
theorem Add2 (h : Good P) (a b : R2) : PurT P n_dynamics_Add [TRange, TRange] (a, b) [TRange, .bool] (add a b) := by
  refine purT_of_vc h.c_dynamics_Add h.m te0 [(n_dynamics_isSmall, .fn [TRange] [.bool] (fun _ => True) small)] ⟨fun x _ => isSmall2 h x, trivial⟩ 0 no ?_
  refine And.intro trivial ?_
  intro r1 e1
  refine cnd_i (fun c => fin2 ?_) (fun c1 => ?_)
  · have := nt c; rw [e1] at this; unfold add; rw [show small a = false from this]; rfl
  refine And.intro trivial ?_
  intro r2 e2
  have s1 : small a = true := by have := nf c1; rw [e1] at this; exact this
  refine cnd_i (fun c => fin2 ?_) (fun c2 => ?_)
  · have := nt c; rw [e2] at this; unfold add; rw [show small b = false from this]; simp
  have s2 : small b = true := by have := nf c2; rw [e2] at this; exact this
  obtain ⟨w1, w2⟩ := add_w s1 s2
  refine And.intro trivial ?_
  intro r3 e3
  have e3 : r3 = small (a.1 + b.1, a.2 + b.2) := by rw [← w1, ← w2]; exact e3
  refine cnd_i (fun c => fin2 ?_) (fun c => fin2 ?_)
  · have := nt c; rw [e3] at this; unfold add; rw [this]; simp
  · have := nf c; rw [e3] at this
    show add a b = ((IntKind.wrap .i64 (a.1 + b.1), IntKind.wrap .i64 (a.2 + b.2)), true)
    unfold add; rw [this, s1, s2, w1, w2]; rfl
theorem AddRange2 (h : Good P) (a b : R2) : PurT P n_armplanref40_AddRange [TRange, TRange] (a, b) [TRange, .bool] (add a b) := by
  refine purT_of_vc h.c_armplanref40_AddRange h.m te0 [(n_armplanref40_Small, .fn [TRange] [.bool] (fun _ => True) small)] ⟨fun x _ => Small2 h x, trivial⟩ 0 no ?_
  refine And.intro trivial ?_
  intro r1 e1
  refine cnd_i (fun c => fin2 ?_) (fun c1 => ?_)
  · have := nt c; rw [e1] at this; unfold add; rw [show small a = false from this]; rfl
  refine And.intro trivial ?_
  intro r2 e2
  have s1 : small a = true := by have := nf c1; rw [e1] at this; exact this
  refine cnd_i (fun c => fin2 ?_) (fun c2 => ?_)
  · have := nt c; rw [e2] at this; unfold add; rw [show small b = false from this]; simp
  have s2 : small b = true := by have := nf c2; rw [e2] at this; exact this
  obtain ⟨w1, w2⟩ := add_w s1 s2
  refine And.intro trivial ?_
  intro r3 e3
  have e3 : r3 = small (a.1 + b.1, a.2 + b.2) := by rw [← w1, ← w2]; exact e3
  refine cnd_i (fun c => fin2 ?_) (fun c => fin2 ?_)
  · have := nt c; rw [e3] at this; unfold add; rw [this]; simp
  · have := nf c; rw [e3] at this
    show add a b = ((IntKind.wrap .i64 (a.1 + b.1), IntKind.wrap .i64 (a.2 + b.2)), true)
    unfold add; rw [this, s1, s2, w1, w2]; rfl

def mulLo (a b : R2) : Int := min (min (min (dn a.1 b.1) (dn a.1 b.2)) (dn a.2 b.1)) (dn a.2 b.2)
def mulHi (a b : R2) : Int := max (max (max (up a.1 b.1) (up a.1 b.2)) (up a.2 b.1)) (up a.2 b.2)
def mulOk (a b : R2) : Bool := small a && small b && (prodB a.1 b.1 && prodB a.1 b.2 && prodB a.2 b.1 && prodB a.2 b.2) && small (mulLo a b, mulHi a b)
def mul (a b : R2) : R2 × Bool := if mulOk a b then ((mulLo a b, mulHi a b), true) else ((0, 0), false)
theorem mul_f {a b : R2} (h : mulOk a b = false) : mul a b = ((0, 0), false) := by unfold mul; rw [h]; rfl
theorem mul_t {a b : R2} (h : mulOk a b = true) : mul a b = ((mulLo a b, mulHi a b), true) := by unfold mul; rw [h]; rfl

theorem pS {x : Int × Int} {r : Int × Int × Bool} (e : r = prodS x) : (r.2.2 = false → prodB x.1 x.2 = false) ∧ (r.2.2 = true → prodB x.1 x.2 = true ∧ r.1 = dn x.1 x.2 ∧ r.2.1 = up x.1 x.2) := by
  subst e
  refine ⟨fun h => h, fun h => ?_⟩
  have h : prodB x.1 x.2 = true := h
  refine ⟨h, ?_, ?_⟩
  · show (if prodB x.1 x.2 = true then _ else _) = _; rw [if_pos h]
  · show (if prodB x.1 x.2 = true then _ else _) = _; rw [if_pos h]
theorem bnds {a : R2} (h : small a = true) : bnd a.1 ∧ bnd a.2 := by
  have := small_b h
  unfold bnd; omega

theorem Mul2 (h : Good P) (a b : R2) : PurT P n_dynamics_Mul [TRange, TRange] (a, b) [TRange, .bool] (mul a b) := by
  refine purT_of_vc h.c_dynamics_Mul h.m te0 [(n_dynamics_isSmall, .fn [TRange] [.bool] (fun _ => True) small), (n_dynamics_product, .fn [TI, TI] [TI, TI, .bool] b_prod prodS)] ⟨fun x _ => isSmall2 h x, fun x hx => product2 h x hx, trivial⟩ 10 no ?_
  refine Eq.mpr (β := True ∧ ∀ r, r = small a → cnd (!r) (((0, 0) = (mul a b).fst ∧ false = (mul a b).snd) ∧ True) (True ∧ ∀ r, r = small b → cnd (!r) (((0, 0) = (mul a b).fst ∧ false = (mul a b).snd) ∧ True) (b_prod (a.fst, b.fst) ∧ ∀ r, r = prodS (a.fst, b.fst) → cnd (!r.snd.snd) (((0, 0) = (mul a b).fst ∧ false = (mul a b).snd) ∧ True) (b_prod (a.fst, b.snd) ∧ ∀ r_1, r_1 = prodS (a.fst, b.snd) → cnd (!r_1.snd.snd) (((0, 0) = (mul a b).fst ∧ false = (mul a b).snd) ∧ True) (b_prod (a.snd, b.fst) ∧ ∀ r_2, r_2 = prodS (a.snd, b.fst) → cnd (!r_2.snd.snd) (((0, 0) = (mul a b).fst ∧ false = (mul a b).snd) ∧ True) (b_prod (a.snd, b.snd) ∧ ∀ r_3, r_3 = prodS (a.snd, b.snd) → cnd (!r_3.snd.snd) (((0, 0) = (mul a b).fst ∧ false = (mul a b).snd) ∧ True) (True ∧ ∀ r_4, r_4 = small (min (min (min (min r.fst r.fst) r_1.fst) r_2.fst) r_3.fst, max (max (max (max r.snd.fst r.snd.fst) r_1.snd.fst) r_2.snd.fst) r_3.snd.fst) → cnd (!r_4) (((0, 0) = (mul a b).fst ∧ false = (mul a b).snd) ∧ True) (((min (min (min (min r.fst r.fst) r_1.fst) r_2.fst) r_3.fst, max (max (max (max r.snd.fst r.snd.fst) r_1.snd.fst) r_2.snd.fst) r_3.snd.fst) = (mul a b).fst ∧ true = (mul a b).snd) ∧ True)))))))) (by kernel_rfl) ?_
  refine ⟨trivial, ?_⟩
  rintro r1 e1
  refine cnd_i (fun c => fin2 (mul_f ?_)) (fun c1 => ⟨trivial, ?_⟩)
  · have := nt c; rw [e1] at this; unfold mulOk; rw [this]; rfl
  rintro r2 e2
  have s1 : small a = true := by have := nf c1; rw [e1] at this; exact this
  refine cnd_i (fun c => fin2 (mul_f ?_)) (fun c2 => ?_)
  · have := nt c; rw [e2] at this; unfold mulOk; rw [this]; simp
  have s2 : small b = true := by have := nf c2; rw [e2] at this; exact this
  obtain ⟨a1, a2⟩ := bnds s1
  obtain ⟨b1, b2⟩ := bnds s2
  refine ⟨⟨a1, b1⟩, ?_⟩
  rintro p1 q1
  obtain ⟨x1, y1⟩ := pS q1
  refine cnd_i (fun c => fin2 (mul_f ?_)) (fun c3 => ⟨⟨a1, b2⟩, ?_⟩)
  · have := x1 (nt c); unfold mulOk; rw [this]; simp
  have y1 := y1 (nf c3)
  rintro p2 q2
  obtain ⟨x2, y2⟩ := pS q2
  refine cnd_i (fun c => fin2 (mul_f ?_)) (fun c4 => ⟨⟨a2, b1⟩, ?_⟩)
  · have := x2 (nt c); unfold mulOk; rw [this]; simp
  have y2 := y2 (nf c4)
  rintro p3 q3
  obtain ⟨x3, y3⟩ := pS q3
  refine cnd_i (fun c => fin2 (mul_f ?_)) (fun c5 => ⟨⟨a2, b2⟩, ?_⟩)
  · have := x3 (nt c); unfold mulOk; rw [this]; simp
  have y3 := y3 (nf c5)
  rintro p4 q4
  obtain ⟨x4, y4⟩ := pS q4
  refine cnd_i (fun c => fin2 (mul_f ?_)) (fun c6 => ⟨trivial, ?_⟩)
  · have := x4 (nt c); unfold mulOk; rw [this]; simp
  have y4 := y4 (nf c6)
  have hlo : min (min (min (min p1.1 p1.1) p2.1) p3.1) p4.1 = mulLo a b := by
    rw [y1.2.1, y2.2.1, y3.2.1, y4.2.1]; unfold mulLo; rw [Int.min_self]
  have hhi : max (max (max (max p1.2.1 p1.2.1) p2.2.1) p3.2.1) p4.2.1 = mulHi a b := by
    rw [y1.2.2, y2.2.2, y3.2.2, y4.2.2]; unfold mulHi; rw [Int.max_self]
  rw [hlo, hhi]
  rintro r7 e7
  have hall : (prodB a.1 b.1 && prodB a.1 b.2 && prodB a.2 b.1 && prodB a.2 b.2) = true := by
    rw [y1.1, y2.1, y3.1, y4.1]; rfl
  refine cnd_i (fun c => fin2 (mul_f ?_)) (fun c => fin2 (mul_t ?_))
  · have := nt c; rw [e7] at this; unfold mulOk; rw [this]; simp
  · have := nf c; rw [e7] at this; unfold mulOk; rw [this, s1, s2, hall]; rfl
end Go.Bx.S

namespace Go.Bx.S
open Go Go.Bx
set_option maxRecDepth 10000
variable {P : Program}
theorem mn1 {x y : Int} (h : x < y) : x = min y x := by omega
theorem mn2 {x y : Int} (h : ¬ x < y) : y = min y x := by omega
theorem mx1 {x y : Int} (h : y < x) : x = max y x := by omega
theorem mx2 {x y : Int} (h : ¬ y < x) : y = max y x := by omega
theorem mul_all {a b : R2} (h : small (mulLo a b, mulHi a b) = true) : (prodB a.1 b.1 && prodB a.1 b.2 && prodB a.2 b.1 && prodB a.2 b.2) = true := by
  have := small_b h
  unfold mulLo mulHi dn up at this
  simp only [prodB, Bool.and_eq_true, decide_eq_true_eq]
  omega
theorem chain {x y : Int} (hx : bnd x) (hy : bnd y) (u : Bool) {r : W3} (e : r = w_times (x, y)) : b_over (r, 65536, u) ∧ ∀ r1, r1 = w_over (r, 65536, u) → okW r1 ∧ ∀ r2, r2 = w_int r1 →
    (r2.2 = false → prodB x y = false) ∧ (r2.2 = true → r2.1 = (if u then up x y else dn x y)) := by
  unfold bnd at hx hy
  have hV := Q_bound hx hy
  have hv : valW r = (x.natAbs : Int) * y.natAbs := by subst e; unfold valW w_times; simp only; omega
  have hn : r.1 = negP x y := by subst e; rfl
  have hq := quoW_bound (neg := negP x y) (up := u) hV.1 hV.2
  refine ⟨⟨?_, rfl⟩, ?_⟩
  · subst e
    show 0 ≤ (x.natAbs : Int) * y.natAbs / 18446744073709551616 ∧ (x.natAbs : Int) * y.natAbs / 18446744073709551616 < _ ∧ 0 ≤ (x.natAbs : Int) * y.natAbs % 18446744073709551616 ∧ (x.natAbs : Int) * y.natAbs % 18446744073709551616 < _
    omega
  rintro r1 e1
  have e1 : r1 = (negP x y && decide (quoW (negP x y) u ((x.natAbs : Int) * y.natAbs) > 0), quoW (negP x y) u ((x.natAbs : Int) * y.natAbs) / 18446744073709551616, quoW (negP x y) u ((x.natAbs : Int) * y.natAbs) % 18446744073709551616) := by
    rw [e1]; unfold w_over; simp only [hv, hn]
  have hv1 : valW r1 = quoW (negP x y) u ((x.natAbs : Int) * y.natAbs) := by rw [e1]; unfold valW; simp only; omega
  refine ⟨?_, ?_⟩
  · rw [e1]; unfold okW; simp only; omega
  rintro r2 e2
  have h2 : r2.2 = decide (quoW (negP x y) u ((x.natAbs : Int) * y.natAbs) ≤ 4611686018427387904) := by rw [e2]; unfold w_int; simp only [hv1]
  have h1 : r2.1 = if quoW (negP x y) u ((x.natAbs : Int) * y.natAbs) ≤ 4611686018427387904 then (if (negP x y && decide (quoW (negP x y) u ((x.natAbs : Int) * y.natAbs) > 0)) = true then -quoW (negP x y) u ((x.natAbs : Int) * y.natAbs) else quoW (negP x y) u ((x.natAbs : Int) * y.natAbs)) else 0 := by
    rw [e2]; unfold w_int; simp only [hv1]; rw [e1]
  cases u with
  | false =>
    have hd := dnQ_eq x y
    unfold dnQ at hd
    refine ⟨fun h => bad_dn (by rw [h2] at h; exact of_decide_eq_false h), fun h => ?_⟩
    rw [h2] at h
    rw [h1, if_pos (of_decide_eq_true h), hd]; rfl
  | true =>
    have hd := upQ_eq x y
    unfold upQ at hd
    refine ⟨fun h => bad_up (by rw [h2] at h; exact of_decide_eq_false h), fun h => ?_⟩
    rw [h2] at h
    rw [h1, if_pos (of_decide_eq_true h), hd]; rfl

theorem MulRange2 (h : Good P) (c3 : AddC P) (a b : R2) : PurT P n_armplanref40_MulRange [TRange, TRange] (a, b) [TRange, .bool] (mul a b) := by
  refine purT_of_vc h.c_armplanref40_MulRange h.m te0 [(n_armplanref40_Small, .fn [TRange] [.bool] (fun _ => True) small), (n_armplanref40_Times, .fn [TI, TI] [TWide] b_prod w_times), (n_armplanref40_Wide_Over, .fn [TWide, .int .u64, .bool] [TWide] b_over w_over), (n_armplanref40_Wide_Int, .fn [TWide] [TI, .bool] okW w_int)] ⟨fun x _ => Small2 h x, Times2 h, Over2 h c3, Int2 h, trivial⟩ 10 (fun n => bif Nat.beq n 1070 then some ⟨[3,4,5,6,7,13,15,30,31,38,39,9], [.cell 6 0]⟩ else bif Nat.beq n 1079 then some ⟨[3,4,5,6,7,30,31,38,39,9], [.cell 6 1]⟩ else none) ?_
  refine Eq.mpr (β := True ∧ ∀ r, r = small a → cnd (!r) ((((0 : Int), (0 : Int)) = (mul a b).fst ∧ false = (mul a b).snd) ∧ True) (True ∧ ∀ r, r = small b → cnd (!r) ((((0 : Int), (0 : Int)) = (mul a b).fst ∧ false = (mul a b).snd) ∧ True) (b_prod (tab [a.fst, a.snd] (0 : Int), tab [b.fst, b.snd] (0 : Int)) ∧ ∀ r, r = w_times (tab [a.fst, a.snd] (0 : Int), tab [b.fst, b.snd] (0 : Int)) → b_over (r, (65536 : Int), false) ∧ ∀ r_1, r_1 = w_over (r, (65536 : Int), false) → okW r_1 ∧ ∀ r_2, r_2 = w_int r_1 → b_over (r, (65536 : Int), true) ∧ ∀ r_3, r_3 = w_over (r, (65536 : Int), true) → okW r_3 ∧ ∀ r_4, r_4 = w_int r_3 → cnd (!r_2.snd) ((((0 : Int), (0 : Int)) = (mul a b).fst ∧ false = (mul a b).snd) ∧ True) (cnd (!r_4.snd) ((((0 : Int), (0 : Int)) = (mul a b).fst ∧ false = (mul a b).snd) ∧ True) (∃ (J : denR [Ty.int .i64] → Prop), (∃ (x : Int), (false = false ∧ true = true ∧ r_2.fst = r_2.fst ∧ r_4.fst = r_4.fst ∧ a.fst = a.fst ∧ a.snd = a.snd ∧ (0 : Int) = (0 : Int) ∧ b.fst = b.fst ∧ b.snd = b.snd ∧ (0 : Int) = (0 : Int) ∧ tab [a.fst, a.snd] (0 : Int) = tab [a.fst, a.snd] (0 : Int) ∧ a.fst = a.fst ∧ a.snd = a.snd ∧ b.fst = b.fst ∧ b.snd = b.snd ∧ (0 : Int) = (0 : Int) ∧ (0 : Int) = (0 : Int) ∧ r_2.fst = x ∧ (0 : Int) = (0 : Int) ∧ r.fst = r.fst ∧ r.snd.fst = r.snd.fst ∧ r.snd.snd = r.snd.snd ∧ True) ∧ J x) ∧ ∀ x, J x → ∃ (J : denR [Ty.int .i64] → Prop), (∃ (x_1 : Int), (false = false ∧ true = true ∧ a.fst = a.fst ∧ a.snd = a.snd ∧ (0 : Int) = (0 : Int) ∧ b.fst = b.fst ∧ b.snd = b.snd ∧ (0 : Int) = (0 : Int) ∧ tab [a.fst, a.snd] (0 : Int) = tab [a.fst, a.snd] (0 : Int) ∧ a.fst = a.fst ∧ a.snd = a.snd ∧ b.fst = b.fst ∧ b.snd = b.snd ∧ (0 : Int) = (0 : Int) ∧ (0 : Int) = (0 : Int) ∧ x = x ∧ r_4.fst = x_1 ∧ r.fst = r.fst ∧ r.snd.fst = r.snd.fst ∧ r.snd.snd = r.snd.snd ∧ True) ∧ J x_1) ∧ ∀ x_1, J x_1 → b_prod (tab [a.fst, a.snd] (0 : Int), tab [b.fst, b.snd] (1 : Int)) ∧ ∀ r_5, r_5 = w_times (tab [a.fst, a.snd] (0 : Int), tab [b.fst, b.snd] (1 : Int)) → b_over (r_5, (65536 : Int), false) ∧ ∀ r_6, r_6 = w_over (r_5, (65536 : Int), false) → okW r_6 ∧ ∀ r_7, r_7 = w_int r_6 → b_over (r_5, (65536 : Int), true) ∧ ∀ r_8, r_8 = w_over (r_5, (65536 : Int), true) → okW r_8 ∧ ∀ r_9, r_9 = w_int r_8 → cnd (!r_7.snd) ((((0 : Int), (0 : Int)) = (mul a b).fst ∧ false = (mul a b).snd) ∧ True) (cnd (!r_9.snd) ((((0 : Int), (0 : Int)) = (mul a b).fst ∧ false = (mul a b).snd) ∧ True) (∃ (J : denR [Ty.int .i64] → Prop), cnd (decide (r_7.fst < x)) (∃ (x : Int), (false = false ∧ false = false ∧ r_7.fst = r_7.fst ∧ r_9.fst = r_9.fst ∧ a.fst = a.fst ∧ a.snd = a.snd ∧ (0 : Int) = (0 : Int) ∧ b.fst = b.fst ∧ b.snd = b.snd ∧ (1 : Int) = (1 : Int) ∧ tab [a.fst, a.snd] (0 : Int) = tab [a.fst, a.snd] (0 : Int) ∧ a.fst = a.fst ∧ a.snd = a.snd ∧ b.fst = b.fst ∧ b.snd = b.snd ∧ (0 : Int) = (0 : Int) ∧ (0 : Int) = (0 : Int) ∧ r_7.fst = x ∧ x_1 = x_1 ∧ r.fst = r.fst ∧ r.snd.fst = r.snd.fst ∧ r.snd.snd = r.snd.snd ∧ r_5.fst = r_5.fst ∧ r_5.snd.fst = r_5.snd.fst ∧ r_5.snd.snd = r_5.snd.snd ∧ True) ∧ J x) (∃ (x_2 : Int), (false = false ∧ false = false ∧ r_7.fst = r_7.fst ∧ r_9.fst = r_9.fst ∧ a.fst = a.fst ∧ a.snd = a.snd ∧ (0 : Int) = (0 : Int) ∧ b.fst = b.fst ∧ b.snd = b.snd ∧ (1 : Int) = (1 : Int) ∧ tab [a.fst, a.snd] (0 : Int) = tab [a.fst, a.snd] (0 : Int) ∧ a.fst = a.fst ∧ a.snd = a.snd ∧ b.fst = b.fst ∧ b.snd = b.snd ∧ (0 : Int) = (0 : Int) ∧ (0 : Int) = (0 : Int) ∧ x = x_2 ∧ x_1 = x_1 ∧ r.fst = r.fst ∧ r.snd.fst = r.snd.fst ∧ r.snd.snd = r.snd.snd ∧ r_5.fst = r_5.fst ∧ r_5.snd.fst = r_5.snd.fst ∧ r_5.snd.snd = r_5.snd.snd ∧ True) ∧ J x_2) ∧ ∀ x, J x → ∃ (J : denR [Ty.int .i64] → Prop), cnd (decide (x_1 < r_9.fst)) (∃ (x_2 : Int), (false = false ∧ false = false ∧ a.fst = a.fst ∧ a.snd = a.snd ∧ (0 : Int) = (0 : Int) ∧ b.fst = b.fst ∧ b.snd = b.snd ∧ (1 : Int) = (1 : Int) ∧ tab [a.fst, a.snd] (0 : Int) = tab [a.fst, a.snd] (0 : Int) ∧ a.fst = a.fst ∧ a.snd = a.snd ∧ b.fst = b.fst ∧ b.snd = b.snd ∧ (0 : Int) = (0 : Int) ∧ (0 : Int) = (0 : Int) ∧ x = x ∧ r_9.fst = x_2 ∧ r.fst = r.fst ∧ r.snd.fst = r.snd.fst ∧ r.snd.snd = r.snd.snd ∧ r_5.fst = r_5.fst ∧ r_5.snd.fst = r_5.snd.fst ∧ r_5.snd.snd = r_5.snd.snd ∧ True) ∧ J x_2) (∃ (x_2 : Int), (false = false ∧ false = false ∧ a.fst = a.fst ∧ a.snd = a.snd ∧ (0 : Int) = (0 : Int) ∧ b.fst = b.fst ∧ b.snd = b.snd ∧ (1 : Int) = (1 : Int) ∧ tab [a.fst, a.snd] (0 : Int) = tab [a.fst, a.snd] (0 : Int) ∧ a.fst = a.fst ∧ a.snd = a.snd ∧ b.fst = b.fst ∧ b.snd = b.snd ∧ (0 : Int) = (0 : Int) ∧ (0 : Int) = (0 : Int) ∧ x = x ∧ x_1 = x_2 ∧ r.fst = r.fst ∧ r.snd.fst = r.snd.fst ∧ r.snd.snd = r.snd.snd ∧ r_5.fst = r_5.fst ∧ r_5.snd.fst = r_5.snd.fst ∧ r_5.snd.snd = r_5.snd.snd ∧ True) ∧ J x_2) ∧ ∀ x_2, J x_2 → b_prod (tab [a.fst, a.snd] (1 : Int), tab [b.fst, b.snd] (0 : Int)) ∧ ∀ r_10, r_10 = w_times (tab [a.fst, a.snd] (1 : Int), tab [b.fst, b.snd] (0 : Int)) → b_over (r_10, (65536 : Int), false) ∧ ∀ r_11, r_11 = w_over (r_10, (65536 : Int), false) → okW r_11 ∧ ∀ r_12, r_12 = w_int r_11 → b_over (r_10, (65536 : Int), true) ∧ ∀ r_13, r_13 = w_over (r_10, (65536 : Int), true) → okW r_13 ∧ ∀ r_14, r_14 = w_int r_13 → cnd (!r_12.snd) ((((0 : Int), (0 : Int)) = (mul a b).fst ∧ false = (mul a b).snd) ∧ True) (cnd (!r_14.snd) ((((0 : Int), (0 : Int)) = (mul a b).fst ∧ false = (mul a b).snd) ∧ True) (∃ (J : denR [Ty.int .i64] → Prop), cnd (decide (r_12.fst < x)) (∃ (x : Int), (false = false ∧ false = false ∧ r_12.fst = r_12.fst ∧ r_14.fst = r_14.fst ∧ a.fst = a.fst ∧ a.snd = a.snd ∧ (1 : Int) = (1 : Int) ∧ b.fst = b.fst ∧ b.snd = b.snd ∧ (0 : Int) = (0 : Int) ∧ tab [a.fst, a.snd] (1 : Int) = tab [a.fst, a.snd] (1 : Int) ∧ a.fst = a.fst ∧ a.snd = a.snd ∧ b.fst = b.fst ∧ b.snd = b.snd ∧ (0 : Int) = (0 : Int) ∧ (0 : Int) = (0 : Int) ∧ r_12.fst = x ∧ x_2 = x_2 ∧ r.fst = r.fst ∧ r.snd.fst = r.snd.fst ∧ r.snd.snd = r.snd.snd ∧ r_5.fst = r_5.fst ∧ r_5.snd.fst = r_5.snd.fst ∧ r_5.snd.snd = r_5.snd.snd ∧ r_10.fst = r_10.fst ∧ r_10.snd.fst = r_10.snd.fst ∧ r_10.snd.snd = r_10.snd.snd ∧ True) ∧ J x) (∃ (x_3 : Int), (false = false ∧ false = false ∧ r_12.fst = r_12.fst ∧ r_14.fst = r_14.fst ∧ a.fst = a.fst ∧ a.snd = a.snd ∧ (1 : Int) = (1 : Int) ∧ b.fst = b.fst ∧ b.snd = b.snd ∧ (0 : Int) = (0 : Int) ∧ tab [a.fst, a.snd] (1 : Int) = tab [a.fst, a.snd] (1 : Int) ∧ a.fst = a.fst ∧ a.snd = a.snd ∧ b.fst = b.fst ∧ b.snd = b.snd ∧ (0 : Int) = (0 : Int) ∧ (0 : Int) = (0 : Int) ∧ x = x_3 ∧ x_2 = x_2 ∧ r.fst = r.fst ∧ r.snd.fst = r.snd.fst ∧ r.snd.snd = r.snd.snd ∧ r_5.fst = r_5.fst ∧ r_5.snd.fst = r_5.snd.fst ∧ r_5.snd.snd = r_5.snd.snd ∧ r_10.fst = r_10.fst ∧ r_10.snd.fst = r_10.snd.fst ∧ r_10.snd.snd = r_10.snd.snd ∧ True) ∧ J x_3) ∧ ∀ x, J x → ∃ (J : denR [Ty.int .i64] → Prop), cnd (decide (x_2 < r_14.fst)) (∃ (x_3 : Int), (false = false ∧ false = false ∧ a.fst = a.fst ∧ a.snd = a.snd ∧ (1 : Int) = (1 : Int) ∧ b.fst = b.fst ∧ b.snd = b.snd ∧ (0 : Int) = (0 : Int) ∧ tab [a.fst, a.snd] (1 : Int) = tab [a.fst, a.snd] (1 : Int) ∧ a.fst = a.fst ∧ a.snd = a.snd ∧ b.fst = b.fst ∧ b.snd = b.snd ∧ (0 : Int) = (0 : Int) ∧ (0 : Int) = (0 : Int) ∧ x = x ∧ r_14.fst = x_3 ∧ r.fst = r.fst ∧ r.snd.fst = r.snd.fst ∧ r.snd.snd = r.snd.snd ∧ r_5.fst = r_5.fst ∧ r_5.snd.fst = r_5.snd.fst ∧ r_5.snd.snd = r_5.snd.snd ∧ r_10.fst = r_10.fst ∧ r_10.snd.fst = r_10.snd.fst ∧ r_10.snd.snd = r_10.snd.snd ∧ True) ∧ J x_3) (∃ (x_3 : Int), (false = false ∧ false = false ∧ a.fst = a.fst ∧ a.snd = a.snd ∧ (1 : Int) = (1 : Int) ∧ b.fst = b.fst ∧ b.snd = b.snd ∧ (0 : Int) = (0 : Int) ∧ tab [a.fst, a.snd] (1 : Int) = tab [a.fst, a.snd] (1 : Int) ∧ a.fst = a.fst ∧ a.snd = a.snd ∧ b.fst = b.fst ∧ b.snd = b.snd ∧ (0 : Int) = (0 : Int) ∧ (0 : Int) = (0 : Int) ∧ x = x ∧ x_2 = x_3 ∧ r.fst = r.fst ∧ r.snd.fst = r.snd.fst ∧ r.snd.snd = r.snd.snd ∧ r_5.fst = r_5.fst ∧ r_5.snd.fst = r_5.snd.fst ∧ r_5.snd.snd = r_5.snd.snd ∧ r_10.fst = r_10.fst ∧ r_10.snd.fst = r_10.snd.fst ∧ r_10.snd.snd = r_10.snd.snd ∧ True) ∧ J x_3) ∧ ∀ x_3, J x_3 → b_prod (tab [a.fst, a.snd] (1 : Int), tab [b.fst, b.snd] (1 : Int)) ∧ ∀ r_15, r_15 = w_times (tab [a.fst, a.snd] (1 : Int), tab [b.fst, b.snd] (1 : Int)) → b_over (r_15, (65536 : Int), false) ∧ ∀ r_16, r_16 = w_over (r_15, (65536 : Int), false) → okW r_16 ∧ ∀ r_17, r_17 = w_int r_16 → b_over (r_15, (65536 : Int), true) ∧ ∀ r_18, r_18 = w_over (r_15, (65536 : Int), true) → okW r_18 ∧ ∀ r_19, r_19 = w_int r_18 → cnd (!r_17.snd) ((((0 : Int), (0 : Int)) = (mul a b).fst ∧ false = (mul a b).snd) ∧ True) (cnd (!r_19.snd) ((((0 : Int), (0 : Int)) = (mul a b).fst ∧ false = (mul a b).snd) ∧ True) (∃ (J : denR [Ty.int .i64] → Prop), cnd (decide (r_17.fst < x)) (∃ (x : Int), (false = false ∧ false = false ∧ r_17.fst = r_17.fst ∧ r_19.fst = r_19.fst ∧ a.fst = a.fst ∧ a.snd = a.snd ∧ (1 : Int) = (1 : Int) ∧ b.fst = b.fst ∧ b.snd = b.snd ∧ (1 : Int) = (1 : Int) ∧ tab [a.fst, a.snd] (1 : Int) = tab [a.fst, a.snd] (1 : Int) ∧ a.fst = a.fst ∧ a.snd = a.snd ∧ b.fst = b.fst ∧ b.snd = b.snd ∧ (0 : Int) = (0 : Int) ∧ (0 : Int) = (0 : Int) ∧ r_17.fst = x ∧ x_3 = x_3 ∧ r.fst = r.fst ∧ r.snd.fst = r.snd.fst ∧ r.snd.snd = r.snd.snd ∧ r_5.fst = r_5.fst ∧ r_5.snd.fst = r_5.snd.fst ∧ r_5.snd.snd = r_5.snd.snd ∧ r_10.fst = r_10.fst ∧ r_10.snd.fst = r_10.snd.fst ∧ r_10.snd.snd = r_10.snd.snd ∧ r_15.fst = r_15.fst ∧ r_15.snd.fst = r_15.snd.fst ∧ r_15.snd.snd = r_15.snd.snd ∧ True) ∧ J x) (∃ (x_4 : Int), (false = false ∧ false = false ∧ r_17.fst = r_17.fst ∧ r_19.fst = r_19.fst ∧ a.fst = a.fst ∧ a.snd = a.snd ∧ (1 : Int) = (1 : Int) ∧ b.fst = b.fst ∧ b.snd = b.snd ∧ (1 : Int) = (1 : Int) ∧ tab [a.fst, a.snd] (1 : Int) = tab [a.fst, a.snd] (1 : Int) ∧ a.fst = a.fst ∧ a.snd = a.snd ∧ b.fst = b.fst ∧ b.snd = b.snd ∧ (0 : Int) = (0 : Int) ∧ (0 : Int) = (0 : Int) ∧ x = x_4 ∧ x_3 = x_3 ∧ r.fst = r.fst ∧ r.snd.fst = r.snd.fst ∧ r.snd.snd = r.snd.snd ∧ r_5.fst = r_5.fst ∧ r_5.snd.fst = r_5.snd.fst ∧ r_5.snd.snd = r_5.snd.snd ∧ r_10.fst = r_10.fst ∧ r_10.snd.fst = r_10.snd.fst ∧ r_10.snd.snd = r_10.snd.snd ∧ r_15.fst = r_15.fst ∧ r_15.snd.fst = r_15.snd.fst ∧ r_15.snd.snd = r_15.snd.snd ∧ True) ∧ J x_4) ∧ ∀ x, J x → ∃ (J : denR [Ty.int .i64] → Prop), cnd (decide (x_3 < r_19.fst)) (∃ (x_4 : Int), (false = false ∧ false = false ∧ a.fst = a.fst ∧ a.snd = a.snd ∧ (1 : Int) = (1 : Int) ∧ b.fst = b.fst ∧ b.snd = b.snd ∧ (1 : Int) = (1 : Int) ∧ tab [a.fst, a.snd] (1 : Int) = tab [a.fst, a.snd] (1 : Int) ∧ a.fst = a.fst ∧ a.snd = a.snd ∧ b.fst = b.fst ∧ b.snd = b.snd ∧ (0 : Int) = (0 : Int) ∧ (0 : Int) = (0 : Int) ∧ x = x ∧ r_19.fst = x_4 ∧ r.fst = r.fst ∧ r.snd.fst = r.snd.fst ∧ r.snd.snd = r.snd.snd ∧ r_5.fst = r_5.fst ∧ r_5.snd.fst = r_5.snd.fst ∧ r_5.snd.snd = r_5.snd.snd ∧ r_10.fst = r_10.fst ∧ r_10.snd.fst = r_10.snd.fst ∧ r_10.snd.snd = r_10.snd.snd ∧ r_15.fst = r_15.fst ∧ r_15.snd.fst = r_15.snd.fst ∧ r_15.snd.snd = r_15.snd.snd ∧ True) ∧ J x_4) (∃ (x_4 : Int), (false = false ∧ false = false ∧ a.fst = a.fst ∧ a.snd = a.snd ∧ (1 : Int) = (1 : Int) ∧ b.fst = b.fst ∧ b.snd = b.snd ∧ (1 : Int) = (1 : Int) ∧ tab [a.fst, a.snd] (1 : Int) = tab [a.fst, a.snd] (1 : Int) ∧ a.fst = a.fst ∧ a.snd = a.snd ∧ b.fst = b.fst ∧ b.snd = b.snd ∧ (0 : Int) = (0 : Int) ∧ (0 : Int) = (0 : Int) ∧ x = x ∧ x_3 = x_4 ∧ r.fst = r.fst ∧ r.snd.fst = r.snd.fst ∧ r.snd.snd = r.snd.snd ∧ r_5.fst = r_5.fst ∧ r_5.snd.fst = r_5.snd.fst ∧ r_5.snd.snd = r_5.snd.snd ∧ r_10.fst = r_10.fst ∧ r_10.snd.fst = r_10.snd.fst ∧ r_10.snd.snd = r_10.snd.snd ∧ r_15.fst = r_15.fst ∧ r_15.snd.fst = r_15.snd.fst ∧ r_15.snd.snd = r_15.snd.snd ∧ True) ∧ J x_4) ∧ ∀ x_4, J x_4 → True ∧ ∀ r, r = small (x, x_4) → cnd (!r) ((((0 : Int), (0 : Int)) = (mul a b).fst ∧ false = (mul a b).snd) ∧ True) (((x, x_4) = (mul a b).fst ∧ true = (mul a b).snd) ∧ True)))))))))))) (by kernel_rfl) ?_
  refine ⟨trivial, ?_⟩
  rintro r1 e1
  refine cnd_i (fun c => fin2 (mul_f ?_)) (fun c1 => ⟨trivial, ?_⟩)
  · have := nt c; rw [e1] at this; unfold mulOk; rw [this]; rfl
  rintro r2 e2
  have s1 : small a = true := by have := nf c1; rw [e1] at this; exact this
  refine cnd_i (fun c => fin2 (mul_f ?_)) (fun c2 => ?_)
  · have := nt c; rw [e2] at this; unfold mulOk; rw [this]; simp
  have s2 : small b = true := by have := nf c2; rw [e2] at this; exact this
  obtain ⟨a1, a2⟩ := bnds s1
  obtain ⟨b1, b2⟩ := bnds s2
  refine ⟨⟨a1, b1⟩, ?_⟩
  rintro t1 f1
  have f1 : t1 = w_times (a.1, b.1) := f1
  obtain ⟨g1, hc1⟩ := chain a1 b1 false f1
  refine ⟨g1, ?_⟩
  rintro o1 p1
  obtain ⟨g1, hc1⟩ := hc1 o1 p1
  refine ⟨g1, ?_⟩
  rintro i1 q1
  obtain ⟨xf1, xt1⟩ := hc1 i1 q1
  obtain ⟨g1, hc1⟩ := chain a1 b1 true f1
  refine ⟨g1, ?_⟩
  rintro O1 P1
  obtain ⟨g1, hc1⟩ := hc1 O1 P1
  refine ⟨g1, ?_⟩
  rintro I1 Q1
  obtain ⟨yf1, yt1⟩ := hc1 I1 Q1
  refine cnd_i (fun c => fin2 (mul_f ?_)) (fun c => ?_)
  · have := xf1 (nt c); unfold mulOk; rw [this]; simp
  have xt1 : i1.1 = dn a.1 b.1 := xt1 (nf c)
  refine cnd_i (fun c => fin2 (mul_f ?_)) (fun c => ?_)
  · have := yf1 (nt c); unfold mulOk; rw [this]; simp
  have yt1 : I1.1 = up a.1 b.1 := yt1 (nf c)
  refine ⟨fun v => v = dn a.1 b.1, ⟨i1.1, by repeat' (first | exact trivial | exact rfl | apply And.intro), xt1⟩, ?_⟩
  rintro l1 j1
  refine ⟨fun v => v = up a.1 b.1, ⟨I1.1, by repeat' (first | exact trivial | exact rfl | apply And.intro), yt1⟩, ?_⟩
  rintro u1 k1
  refine ⟨⟨a1, b2⟩, ?_⟩
  rintro t2 f2
  have f2 : t2 = w_times (a.1, b.2) := f2
  obtain ⟨g2, hc2⟩ := chain a1 b2 false f2
  refine ⟨g2, ?_⟩
  rintro o2 p2
  obtain ⟨g2, hc2⟩ := hc2 o2 p2
  refine ⟨g2, ?_⟩
  rintro i2 q2
  obtain ⟨xf2, xt2⟩ := hc2 i2 q2
  obtain ⟨g2, hc2⟩ := chain a1 b2 true f2
  refine ⟨g2, ?_⟩
  rintro O2 P2
  obtain ⟨g2, hc2⟩ := hc2 O2 P2
  refine ⟨g2, ?_⟩
  rintro I2 Q2
  obtain ⟨yf2, yt2⟩ := hc2 I2 Q2
  refine cnd_i (fun c => fin2 (mul_f ?_)) (fun c => ?_)
  · have := xf2 (nt c); unfold mulOk; rw [this]; simp
  have xt2 : i2.1 = dn a.1 b.2 := xt2 (nf c)
  refine cnd_i (fun c => fin2 (mul_f ?_)) (fun c => ?_)
  · have := yf2 (nt c); unfold mulOk; rw [this]; simp
  have yt2 : I2.1 = up a.1 b.2 := yt2 (nf c)
  refine ⟨fun v => v = min (dn a.1 b.1) (dn a.1 b.2), cnd_dec (fun c => ⟨i2.1, by repeat' (first | exact trivial | exact rfl | apply And.intro), ?_⟩) (fun c => ⟨l1, by repeat' (first | exact trivial | exact rfl | apply And.intro), ?_⟩), ?_⟩
  · rw [xt2, j1] at c; exact xt2.trans (mn1 c)
  · rw [xt2, j1] at c; exact Eq.trans j1 (mn2 c)
  rintro l2 j2
  refine ⟨fun v => v = max (up a.1 b.1) (up a.1 b.2), cnd_dec (fun c => ⟨I2.1, by repeat' (first | exact trivial | exact rfl | apply And.intro), ?_⟩) (fun c => ⟨u1, by repeat' (first | exact trivial | exact rfl | apply And.intro), ?_⟩), ?_⟩
  · rw [yt2, k1] at c; exact yt2.trans (mx1 c)
  · rw [yt2, k1] at c; exact Eq.trans k1 (mx2 c)
  rintro u2 k2
  refine ⟨⟨a2, b1⟩, ?_⟩
  rintro t3 f3
  have f3 : t3 = w_times (a.2, b.1) := f3
  obtain ⟨g3, hc3⟩ := chain a2 b1 false f3
  refine ⟨g3, ?_⟩
  rintro o3 p3
  obtain ⟨g3, hc3⟩ := hc3 o3 p3
  refine ⟨g3, ?_⟩
  rintro i3 q3
  obtain ⟨xf3, xt3⟩ := hc3 i3 q3
  obtain ⟨g3, hc3⟩ := chain a2 b1 true f3
  refine ⟨g3, ?_⟩
  rintro O3 P3
  obtain ⟨g3, hc3⟩ := hc3 O3 P3
  refine ⟨g3, ?_⟩
  rintro I3 Q3
  obtain ⟨yf3, yt3⟩ := hc3 I3 Q3
  refine cnd_i (fun c => fin2 (mul_f ?_)) (fun c => ?_)
  · have := xf3 (nt c); unfold mulOk; rw [this]; simp
  have xt3 : i3.1 = dn a.2 b.1 := xt3 (nf c)
  refine cnd_i (fun c => fin2 (mul_f ?_)) (fun c => ?_)
  · have := yf3 (nt c); unfold mulOk; rw [this]; simp
  have yt3 : I3.1 = up a.2 b.1 := yt3 (nf c)
  refine ⟨fun v => v = min (min (dn a.1 b.1) (dn a.1 b.2)) (dn a.2 b.1), cnd_dec (fun c => ⟨i3.1, by repeat' (first | exact trivial | exact rfl | apply And.intro), ?_⟩) (fun c => ⟨l2, by repeat' (first | exact trivial | exact rfl | apply And.intro), ?_⟩), ?_⟩
  · rw [xt3, j2] at c; exact xt3.trans (mn1 c)
  · rw [xt3, j2] at c; exact Eq.trans j2 (mn2 c)
  rintro l3 j3
  refine ⟨fun v => v = max (max (up a.1 b.1) (up a.1 b.2)) (up a.2 b.1), cnd_dec (fun c => ⟨I3.1, by repeat' (first | exact trivial | exact rfl | apply And.intro), ?_⟩) (fun c => ⟨u2, by repeat' (first | exact trivial | exact rfl | apply And.intro), ?_⟩), ?_⟩
  · rw [yt3, k2] at c; exact yt3.trans (mx1 c)
  · rw [yt3, k2] at c; exact Eq.trans k2 (mx2 c)
  rintro u3 k3
  refine ⟨⟨a2, b2⟩, ?_⟩
  rintro t4 f4
  have f4 : t4 = w_times (a.2, b.2) := f4
  obtain ⟨g4, hc4⟩ := chain a2 b2 false f4
  refine ⟨g4, ?_⟩
  rintro o4 p4
  obtain ⟨g4, hc4⟩ := hc4 o4 p4
  refine ⟨g4, ?_⟩
  rintro i4 q4
  obtain ⟨xf4, xt4⟩ := hc4 i4 q4
  obtain ⟨g4, hc4⟩ := chain a2 b2 true f4
  refine ⟨g4, ?_⟩
  rintro O4 P4
  obtain ⟨g4, hc4⟩ := hc4 O4 P4
  refine ⟨g4, ?_⟩
  rintro I4 Q4
  obtain ⟨yf4, yt4⟩ := hc4 I4 Q4
  refine cnd_i (fun c => fin2 (mul_f ?_)) (fun c => ?_)
  · have := xf4 (nt c); unfold mulOk; rw [this]; simp
  have xt4 : i4.1 = dn a.2 b.2 := xt4 (nf c)
  refine cnd_i (fun c => fin2 (mul_f ?_)) (fun c => ?_)
  · have := yf4 (nt c); unfold mulOk; rw [this]; simp
  have yt4 : I4.1 = up a.2 b.2 := yt4 (nf c)
  refine ⟨fun v => v = min (min (min (dn a.1 b.1) (dn a.1 b.2)) (dn a.2 b.1)) (dn a.2 b.2), cnd_dec (fun c => ⟨i4.1, by repeat' (first | exact trivial | exact rfl | apply And.intro), ?_⟩) (fun c => ⟨l3, by repeat' (first | exact trivial | exact rfl | apply And.intro), ?_⟩), ?_⟩
  · rw [xt4, j3] at c; exact xt4.trans (mn1 c)
  · rw [xt4, j3] at c; exact Eq.trans j3 (mn2 c)
  rintro l4 j4
  refine ⟨fun v => v = max (max (max (up a.1 b.1) (up a.1 b.2)) (up a.2 b.1)) (up a.2 b.2), cnd_dec (fun c => ⟨I4.1, by repeat' (first | exact trivial | exact rfl | apply And.intro), ?_⟩) (fun c => ⟨u3, by repeat' (first | exact trivial | exact rfl | apply And.intro), ?_⟩), ?_⟩
  · rw [yt4, k3] at c; exact yt4.trans (mx1 c)
  · rw [yt4, k3] at c; exact Eq.trans k3 (mx2 c)
  rintro u4 k4
  have j4 : l4 = mulLo a b := j4
  have k4 : u4 = mulHi a b := k4
  subst j4 k4
  refine ⟨trivial, ?_⟩
  rintro r7 e7
  refine cnd_i (fun c => fin2 (mul_f ?_)) (fun c => fin2 (mul_t ?_))
  · have := nt c; rw [e7] at this; unfold mulOk; rw [this]; simp
  · have := nf c; rw [e7] at this; unfold mulOk; rw [this, s1, s2, mul_all this]; rfl
end Go.Bx.S

namespace Go.Bx.S
open Go Go.Bx
set_option maxRecDepth 10000
variable {P : Program}
theorem ranges2 (h : Good P) (c3 : AddC P) (x : R2 × R2) : PurT P n_armplanlaw40_ranges [TRange, TRange] x [.bool] true := by
  refine purT_of_vc h.c_armplanlaw40_ranges h.m te0 [(n_dynamics_Add, .fn [TRange, TRange] [TRange, .bool] (fun _ => True) (fun x => add x.1 x.2)), (n_armplanref40_AddRange, .fn [TRange, TRange] [TRange, .bool] (fun _ => True) (fun x => add x.1 x.2)), (n_dynamics_Mul, .fn [TRange, TRange] [TRange, .bool] (fun _ => True) (fun x => mul x.1 x.2)), (n_armplanref40_MulRange, .fn [TRange, TRange] [TRange, .bool] (fun _ => True) (fun x => mul x.1 x.2))] ⟨fun x _ => Add2 h x.1 x.2, fun x _ => AddRange2 h x.1 x.2, fun x _ => Mul2 h x.1 x.2, fun x _ => MulRange2 h c3 x.1 x.2, trivial⟩ 0 no ?_
  refine Eq.mpr (β := True ∧ ∀ r, r = add x.fst x.snd → True ∧ ∀ r_1, r_1 = add x.fst x.snd → True ∧ ∀ r_2, r_2 = mul x.fst x.snd → True ∧ ∀ r_3, r_3 = mul x.fst x.snd → cnd (decide (r.fst.fst = r_1.fst.fst) && (decide (r.fst.snd = r_1.fst.snd) && true)) (cnd (r.snd == r_1.snd) (cnd (decide (r_2.fst.fst = r_3.fst.fst) && (decide (r_2.fst.snd = r_3.fst.snd) && true)) ((r_2.snd == r_3.snd) = true ∧ True) (false = true ∧ True)) (false = true ∧ True)) (false = true ∧ True)) (by kernel_rfl) ?_
  refine ⟨trivial, ?_⟩
  rintro _ rfl
  refine ⟨trivial, ?_⟩
  rintro _ rfl
  refine ⟨trivial, ?_⟩
  rintro _ rfl
  refine ⟨trivial, ?_⟩
  rintro _ rfl
  simp [cnd]
def s_round (x : Int × Int) : Int := if Int.tmod x.1 x.2 < 0 then IntKind.wrap .i64 (Int.tmod x.1 x.2 + x.2) else Int.tmod x.1 x.2
def b_round (x : Int × Int) : Prop := 0 < x.2
theorem Round2 (h : Good P) (x : Int × Int) (hx : b_round x) : PurT P n_armplanmake_Round [TI, TI] x [TI] (s_round x) := by
  refine purT_of_vc h.c_armplanmake_Round h.m te0 [] trivial 0 no ?_
  refine Eq.mpr (β := need (x.snd ≠ (0 : Int)) (cnd (decide (Int.tmod x.fst x.snd < (0 : Int))) (IntKind.wrap .i64 (Int.tmod x.fst x.snd + x.snd) = s_round x ∧ True) (Int.tmod x.fst x.snd = s_round x ∧ True))) (by kernel_rfl) ?_
  unfold b_round at hx
  refine need_i (by omega) (cnd_dec (fun c => tr ?_) (fun c => tr ?_))
  · unfold s_round; rw [if_pos c]
  · unfold s_round; rw [if_neg c]
theorem round_b (n k : Int) (hk : 0 < k) (hk2 : k ≤ 4611686018427387904) : 0 ≤ s_round (n, k) ∧ s_round (n, k) < k := by
  have h1 := Int.tmod_lt_of_pos n hk
  have h2 := Int.lt_tmod_of_pos n hk
  unfold s_round
  simp only
  split
  · rw [wrap64 (by omega) (by omega)]; omega
  · omega
def s_clamp (x : Int) : Int := max (-2147483648 : Int) (min x (2147483648 : Int))
theorem Clamp2 (h : Good P) (x : Int) : PurT P n_armplanref1_Clamp [TI] x [TI] (s_clamp x) := by
  refine purT_of_vc h.c_armplanref1_Clamp h.m te0 [] trivial 0 no ?_
  refine Eq.mpr (β := max (-2147483648 : Int) (min x (2147483648 : Int)) = s_clamp x ∧ True) (by kernel_rfl) ?_
  exact ⟨rfl, trivial⟩
def s_k (a : Int) : Int := shlI .i64 (1 : Int) (IntKind.wrap .u64 (IntKind.wrap .i64 ((4 : Int) + s_round (shrI .i64 a (3 : Int), (27 : Int)))))
def s_int (x : Int × Int) : R2 := if bandI .i64 x.2 (1 : Int) = 0 then
    (min (s_clamp (IntKind.wrap .i64 (s_round (x.1, IntKind.wrap .i64 (IntKind.wrap .i64 (2 * s_k x.1) + 1)) - s_k x.1))) (s_clamp (IntKind.wrap .i64 (IntKind.wrap .i64 (s_round (x.1, IntKind.wrap .i64 (IntKind.wrap .i64 (2 * s_k x.1) + 1)) - s_k x.1) + s_round (shrI .i64 x.2 1, IntKind.wrap .i64 (1 + IntKind.wrap .i64 ((s_k x.1).tdiv 8)))))),
     max (s_clamp (IntKind.wrap .i64 (s_round (x.1, IntKind.wrap .i64 (IntKind.wrap .i64 (2 * s_k x.1) + 1)) - s_k x.1))) (s_clamp (IntKind.wrap .i64 (IntKind.wrap .i64 (s_round (x.1, IntKind.wrap .i64 (IntKind.wrap .i64 (2 * s_k x.1) + 1)) - s_k x.1) + s_round (shrI .i64 x.2 1, IntKind.wrap .i64 (1 + IntKind.wrap .i64 ((s_k x.1).tdiv 8)))))))
  else
    (min (s_clamp (IntKind.wrap .i64 (s_round (x.1, IntKind.wrap .i64 (IntKind.wrap .i64 (2 * s_k x.1) + 1)) - s_k x.1))) (s_clamp (IntKind.wrap .i64 (s_round (x.2, IntKind.wrap .i64 (IntKind.wrap .i64 (2 * s_k x.1) + 1)) - s_k x.1))),
     max (s_clamp (IntKind.wrap .i64 (s_round (x.1, IntKind.wrap .i64 (IntKind.wrap .i64 (2 * s_k x.1) + 1)) - s_k x.1))) (s_clamp (IntKind.wrap .i64 (s_round (x.2, IntKind.wrap .i64 (IntKind.wrap .i64 (2 * s_k x.1) + 1)) - s_k x.1))))
theorem shl_b : ∀ n : _root_.Fin 31, 4 ≤ n.val → 16 ≤ shlI .i64 1 (n.val : Int) ∧ shlI .i64 1 (n.val : Int) ≤ 1073741824 := by decide
theorem k_b (a : Int) : 0 ≤ IntKind.wrap .u64 (IntKind.wrap .i64 ((4 : Int) + s_round (shrI .i64 a (3 : Int), (27 : Int)))) ∧ 16 ≤ s_k a ∧ s_k a ≤ 1073741824 := by
  have hr := round_b (shrI .i64 a 3) 27 (by omega) (by omega)
  unfold s_k
  generalize s_round (shrI .i64 a 3, 27) = r at hr
  rw [wrap64 (by omega) (by omega), wrapU64 (by omega) (by omega)]
  refine ⟨by omega, ?_⟩
  have := shl_b ⟨(4 + r).toNat, by omega⟩ (by simp only; omega)
  simp only at this
  rw [show (((4 + r).toNat : Nat) : Int) = 4 + r by omega] at this
  exact this
theorem Interval2 (h : Good P) (x : Int × Int) : PurT P n_armplanmake_Interval [TI, TI] x [TRange] (s_int x) := by
  refine purT_of_vc h.c_armplanmake_Interval h.m te0 [(n_armplanmake_Round, .fn [TI, TI] [TI] b_round s_round), (n_armplanref1_Clamp, .fn [TI] [TI] (fun _ => True) s_clamp)] ⟨Round2 h, fun x _ => Clamp2 h x, trivial⟩ 0 no ?_
  refine Eq.mpr (β := b_round (shrI .i64 x.fst (3 : Int), (27 : Int)) ∧ ∀ r, r = s_round (shrI .i64 x.fst (3 : Int), (27 : Int)) → need ((0 : Int) ≤ IntKind.wrap .u64 (IntKind.wrap .i64 ((4 : Int) + r))) (b_round (x.fst, IntKind.wrap .i64 (IntKind.wrap .i64 ((2 : Int) * shlI .i64 (1 : Int) (IntKind.wrap .u64 (IntKind.wrap .i64 ((4 : Int) + r)))) + (1 : Int))) ∧ ∀ r_1, r_1 = s_round (x.fst, IntKind.wrap .i64 (IntKind.wrap .i64 ((2 : Int) * shlI .i64 (1 : Int) (IntKind.wrap .u64 (IntKind.wrap .i64 ((4 : Int) + r)))) + (1 : Int))) → b_round (x.snd, IntKind.wrap .i64 (IntKind.wrap .i64 ((2 : Int) * shlI .i64 (1 : Int) (IntKind.wrap .u64 (IntKind.wrap .i64 ((4 : Int) + r)))) + (1 : Int))) ∧ ∀ r_2, r_2 = s_round (x.snd, IntKind.wrap .i64 (IntKind.wrap .i64 ((2 : Int) * shlI .i64 (1 : Int) (IntKind.wrap .u64 (IntKind.wrap .i64 ((4 : Int) + r)))) + (1 : Int))) → cnd (decide (bandI .i64 x.snd (1 : Int) = (0 : Int))) (b_round (shrI .i64 x.snd (1 : Int), IntKind.wrap .i64 ((1 : Int) + IntKind.wrap .i64 ((shlI .i64 (1 : Int) (IntKind.wrap .u64 (IntKind.wrap .i64 ((4 : Int) + r)))).tdiv (8 : Int)))) ∧ ∀ r_3, r_3 = s_round (shrI .i64 x.snd (1 : Int), IntKind.wrap .i64 ((1 : Int) + IntKind.wrap .i64 ((shlI .i64 (1 : Int) (IntKind.wrap .u64 (IntKind.wrap .i64 ((4 : Int) + r)))).tdiv (8 : Int)))) → True ∧ ∀ r_4, r_4 = s_clamp (IntKind.wrap .i64 (r_1 - shlI .i64 (1 : Int) (IntKind.wrap .u64 (IntKind.wrap .i64 ((4 : Int) + r))))) → True ∧ ∀ r_5, r_5 = s_clamp (IntKind.wrap .i64 (IntKind.wrap .i64 (r_1 - shlI .i64 (1 : Int) (IntKind.wrap .u64 (IntKind.wrap .i64 ((4 : Int) + r)))) + r_3)) → True ∧ ∀ r_6, r_6 = s_clamp (IntKind.wrap .i64 (r_1 - shlI .i64 (1 : Int) (IntKind.wrap .u64 (IntKind.wrap .i64 ((4 : Int) + r))))) → True ∧ ∀ r_7, r_7 = s_clamp (IntKind.wrap .i64 (IntKind.wrap .i64 (r_1 - shlI .i64 (1 : Int) (IntKind.wrap .u64 (IntKind.wrap .i64 ((4 : Int) + r)))) + r_3)) → (min r_4 r_5, max r_6 r_7) = s_int x ∧ True) (True ∧ ∀ r_3, r_3 = s_clamp (IntKind.wrap .i64 (r_1 - shlI .i64 (1 : Int) (IntKind.wrap .u64 (IntKind.wrap .i64 ((4 : Int) + r))))) → True ∧ ∀ r_4, r_4 = s_clamp (IntKind.wrap .i64 (r_2 - shlI .i64 (1 : Int) (IntKind.wrap .u64 (IntKind.wrap .i64 ((4 : Int) + r))))) → True ∧ ∀ r_5, r_5 = s_clamp (IntKind.wrap .i64 (r_1 - shlI .i64 (1 : Int) (IntKind.wrap .u64 (IntKind.wrap .i64 ((4 : Int) + r))))) → True ∧ ∀ r_6, r_6 = s_clamp (IntKind.wrap .i64 (r_2 - shlI .i64 (1 : Int) (IntKind.wrap .u64 (IntKind.wrap .i64 ((4 : Int) + r))))) → (min r_3 r_4, max r_5 r_6) = s_int x ∧ True))) (by kernel_rfl) ?_
  obtain ⟨k0, k1, k2⟩ := k_b x.1
  have k3 : 0 < IntKind.wrap .i64 (IntKind.wrap .i64 (2 * s_k x.1) + 1) := by rw [wrap64 (n := 2 * s_k x.1) (by omega) (by omega), wrap64 (by omega) (by omega)]; omega
  have k4 : 0 < IntKind.wrap .i64 (1 + IntKind.wrap .i64 ((s_k x.1).tdiv 8)) := by
    rw [Int.tdiv_eq_ediv_of_nonneg (by omega), wrap64 (n := s_k x.1 / 8) (by omega) (by omega), wrap64 (by omega) (by omega)]; omega
  refine ⟨by unfold b_round; simp, ?_⟩
  rintro _ rfl
  refine need_i k0 ⟨k3, ?_⟩
  rintro _ rfl
  refine ⟨k3, ?_⟩
  rintro _ rfl
  refine cnd_dec (fun c => ⟨k4, ?_⟩) (fun c => ⟨trivial, ?_⟩)
  · rintro _ rfl
    refine ⟨trivial, ?_⟩
    rintro _ rfl
    refine ⟨trivial, ?_⟩
    rintro _ rfl
    refine ⟨trivial, ?_⟩
    rintro _ rfl
    refine ⟨trivial, ?_⟩
    rintro _ rfl
    refine tr ?_
    unfold s_int
    rw [if_pos c]; rfl
  · rintro _ rfl
    refine ⟨trivial, ?_⟩
    rintro _ rfl
    refine ⟨trivial, ?_⟩
    rintro _ rfl
    refine ⟨trivial, ?_⟩
    rintro _ rfl
    refine tr ?_
    unfold s_int
    rw [if_neg c]; rfl
def s_some (x : Int × Int × Int) : R2 := (shlI .i64 (s_int (x.1, x.2.1)).1 (IntKind.wrap .u64 (s_round (x.2.2, 30))), IntKind.wrap .i64 (shlI .i64 (s_int (x.1, x.2.1)).2 (IntKind.wrap .u64 (s_round (x.2.2, 30))) + s_round (shrI .i64 x.2.2 5, 9)))
theorem some2 (h : Good P) (x : Int × Int × Int) : PurT P n_armplanlaw40_some [TI, TI, TI] x [TRange] (s_some x) := by
  refine purT_of_vc h.c_armplanlaw40_some h.m te0 [(n_armplanmake_Round, .fn [TI, TI] [TI] b_round s_round), (n_armplanmake_Interval, .fn [TI, TI] [TRange] (fun _ => True) s_int)] ⟨Round2 h, fun x _ => Interval2 h x, trivial⟩ 0 no ?_
  refine Eq.mpr (β := True ∧ ∀ r, r = s_int (x.fst, x.snd.fst) → b_round (x.snd.snd, (30 : Int)) ∧ ∀ r_1, r_1 = s_round (x.snd.snd, (30 : Int)) → need ((0 : Int) ≤ IntKind.wrap .u64 r_1) (need ((0 : Int) ≤ IntKind.wrap .u64 r_1) (b_round (shrI .i64 x.snd.snd (5 : Int), (9 : Int)) ∧ ∀ r_2, r_2 = s_round (shrI .i64 x.snd.snd (5 : Int), (9 : Int)) → (shlI .i64 r.fst (IntKind.wrap .u64 r_1), IntKind.wrap .i64 (shlI .i64 r.snd (IntKind.wrap .u64 r_1) + r_2)) = s_some x ∧ True))) (by kernel_rfl) ?_
  have hr := round_b x.2.2 30 (by omega) (by omega)
  have h0 : 0 ≤ IntKind.wrap .u64 (s_round (x.2.2, 30)) := by rw [wrapU64 (by omega) (by omega)]; omega
  refine ⟨trivial, ?_⟩
  rintro _ rfl
  refine ⟨by unfold b_round; simp, ?_⟩
  rintro _ rfl
  refine need_i h0 (need_i h0 ⟨by unfold b_round; simp, ?_⟩)
  rintro _ rfl
  exact tr rfl
theorem law2 (h : Good P) (c3 : AddC P) (ha : PurT P n_armplanlaw40_awake [] () [.bool] true) (x : R2 × R2 × Int × Int × Int × Int × Int × Int) : PurT P n_armplanlaw40_DynamicsRanges [TRange, TRange, TI, TI, TI, TI, TI, TI] x [.bool] true := by
  refine purT_of_vc h.c_armplanlaw40_DynamicsRanges h.m te0 [(n_armplanlaw40_some, .fn [TI, TI, TI] [TRange] (fun _ => True) s_some), (n_armplanlaw40_ranges, .fn [TRange, TRange] [.bool] (fun _ => True) (fun _ => true)), (n_armplanlaw40_awake, .fn [] [.bool] (fun _ => True) (fun _ => true))] ⟨fun x _ => some2 h x, fun x _ => ranges2 h c3 x, fun _ _ => ha, trivial⟩ 0 no ?_
  refine Eq.mpr (β := True ∧ ∀ r, r = s_some (x.snd.snd.fst, x.snd.snd.snd.fst, x.snd.snd.snd.snd.snd.snd.fst) → True ∧ ∀ r, r = s_some (x.snd.snd.snd.snd.fst, x.snd.snd.snd.snd.snd.fst, x.snd.snd.snd.snd.snd.snd.snd) → True ∧ ∀ r, r = true → cnd r (True ∧ ∀ r, r = true → cnd r (True ∧ ∀ r, r = true → cnd r (True ∧ ∀ r, r = true → cnd r (True ∧ ∀ r, r = true → r = true ∧ True) (false = true ∧ True)) (false = true ∧ True)) (false = true ∧ True)) (false = true ∧ True)) (by kernel_rfl) ?_
  refine ⟨trivial, ?_⟩
  rintro _ rfl
  refine ⟨trivial, ?_⟩
  rintro _ rfl
  refine ⟨trivial, ?_⟩
  rintro _ rfl
  refine ⟨trivial, ?_⟩
  rintro _ rfl
  refine ⟨trivial, ?_⟩
  rintro _ rfl
  refine ⟨trivial, ?_⟩
  rintro _ rfl
  refine ⟨trivial, ?_⟩
  rintro _ rfl
  exact tr rfl
end Go.Bx.S

