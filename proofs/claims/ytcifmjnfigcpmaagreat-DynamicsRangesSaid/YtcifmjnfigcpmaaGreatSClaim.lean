/-
  PROVED: armplanlaw40.DynamicsRanges returns true whatever its arguments are, and leaves what it was handed as it was. No further condition.
-/
import Derived.Test.YtcifmjnfigcpmaaGreatSR
import Derived.Test.YtcifmjnfigcpmaaGreatSTab
import Derived.Test.YtcifmjnfigcpmaaGreatSOkT
import Derived.Test.YtcifmjnfigcpmaaGreatBxF
import Derived.Test.YtcifmjnfigcpmaaGreatRows
import Derived.WalkKit
import Derived.ProofKit
import Derived.OpenShut
set_option linter.unusedSimpArgs false
set_option linter.unusedVariables false
set_option linter.unusedSectionVars false
namespace Go.Proofs.YtcifmjnfigcpmaaGreat
open Go Go.Bx Go.Bx.S
open Go.ChangeShapes Go.WideShapes Go.ChangeAt Go.RowKit

theorem own : ownKnob Tryz.prog.godebug = none := by kernel_rfl
theorem types : Types Tryz.prog := ⟨kids_rows (by kernel_rfl) (by kernel_rfl), slices_full_of Tryz.prog (by kernel_rfl)⟩
theorem awakes : PurT Tryz.prog n_armplanlaw40_awake [] () [.bool] true := by
  have hp : Bx.Pure Tryz.prog 8 [] (.bool true) := (goods ok good.m) 8 [] (.bool true) (by kernel_rfl)
  obtain ⟨_, _, cf, hs, σ', he⟩ := hp
  exact ⟨spec_closed hs he (pv_bool _), pvs_nil, pv_bool _⟩
noncomputable def f73 : Func := (Tryz.prog.funcs[73]?).getD Tryz.f4
theorem addC : AddC Tryz.prog := ⟨fun hx hy hc hc1 => pur_add64 (fn := f73) (by kernel_rfl) (by kernel_rfl) (by kernel_rfl) (by kernel_rfl) (by kernel_rfl) hx hy hc hc1⟩

theorem walk (x1 x2 y1 y2 a b c d e f : Int) (W : World) :
    Calls Tryz.prog 4 #[.agg #[.int .i64 x1, .int .i64 x2], .agg #[.int .i64 y1, .int .i64 y2], .int .i64 a, .int .i64 b, .int .i64 c, .int .i64 d, .int .i64 e, .int .i64 f] W fun x W' => x = .returned (.bool true) ∧ Bx.Kept W W' := by
  have hp : Pur Tryz.prog 4 [.agg #[.int .i64 x1, .int .i64 x2], .agg #[.int .i64 y1, .int .i64 y2], .int .i64 a, .int .i64 b, .int .i64 c, .int .i64 d, .int .i64 e, .int .i64 f] (.bool true) :=
    law2 good addC awakes ((x1, x2), (y1, y2), a, b, c, d, e, f)
  obtain ⟨σ', hr, _, _, h⟩ := hp.spec AHeap.empty ⟨rfl, fun i => rfl⟩
  have hc := h absent W [.agg #[.int .i64 x1, .int .i64 x2], .agg #[.int .i64 y1, .int .i64 y2], .int .i64 a, .int .i64 b, .int .i64 c, .int .i64 d, .int .i64 e, .int .i64 f] (R.zero _ W) (flats_rel rfl)
  refine (hc.calls Tryz.func4 rfl (by decide +kernel)).mono ?_
  rintro x W' ⟨φ', v', rfl, hv', hp⟩
  cases hv'
  exact ⟨rfl, hp.kept owned_zero⟩

set_option maxRecDepth 100000 in
theorem open_range {r : Reach} {b0 : Nat} {w : World} {v : Value} (h : Value.okWide Tryz.prog w r b0 38 v) : ∃ a b, v = .agg #[.int .i64 a, .int .i64 b] := by
  unfold Value.okWide at h
  rw [Tryz.underlying38] at h
  obtain ⟨cs, rfl, hs, ts, ht, _, hc⟩ := h
  have ht' : Tryz.prog.cellTypes Tryz.prog.depth 38 = some [2, 2] := by kernel_rfl
  have hs' : Tryz.prog.cellsOf 38 = 2 := by kernel_rfl
  rw [ht'] at ht
  cases ht
  rw [hs'] at hs
  have cell : ∀ i, i < 2 → ∃ n, cs[i]? = some (.int .i64 n) := by
    intro i hi
    obtain ⟨u, hu, hk⟩ := hc i cs[i] (by simp [hs, hi])
    have hu2 : u = 2 := by
      have : i = 0 ∨ i = 1 := by omega
      rcases this with rfl | rfl <;> (simp at hu; exact hu.symm)
    subst hu2
    have hk : Value.okWide Tryz.prog w r b0 2 cs[i] := by unfold Value.okWide; rw [Tryz.underlying2]; exact hk
    obtain ⟨n, hn⟩ := okWide_int Tryz.underlying2 hk
    exact ⟨n, by rw [← hn]; simp [hs, hi]⟩
  obtain ⟨a, ha⟩ := cell 0 (by omega)
  obtain ⟨b, hb⟩ := cell 1 (by omega)
  refine ⟨a, b, ?_⟩
  congr 1
  apply Array.ext'
  apply List.ext_getElem?
  intro i
  match i with
  | 0 => simpa using ha
  | 1 => simpa using hb
  | i + 2 => simp [hs]

set_option maxRecDepth 100000 in
theorem contract (H : Type) (enc : TypeId × Value → H) (W : World) (base : Nat) (args : Array Value) (ds gs : List (DataW H)) (before : List MemPlace)
    (hval : ∀ (j : Nat) t v, Tryz.f4.params[j]? = some t → args[j]? = some v → Value.okWide Tryz.prog W .any base t v)
    (hW : DataW.Whole enc Tryz.prog Tryz.f4.params.toList Rows.dynamicsRangesSpec.vars false W args.toList ds gs before) :
    Calls Tryz.prog 4 args W fun e W' => ∃ v, e = .returned v ∧ Rows.dynamicsRangesSpec.post enc Tryz.prog Tryz.f4 false true false false W args v W' := by
  have hW' := hW
  obtain ⟨p, q, hA0, hV, rfl, hfz, hnd⟩ := hW
  have hA : DataW.TrodAll enc Tryz.prog W 0 (fun _ => true) true Tryz.f4.params.toList args.toList ds p := hA0
  rw [Tryz.params4] at hA hval
  obtain ⟨v0, vs0, d0, ds0, p0, q0, hargs, rfl, rfl, h0, r0⟩ := trodAll_cons hA
  obtain ⟨v1, vs1, d1, ds1, p1, q1, rfl, rfl, rfl, h1, r1⟩ := trodAll_cons r0
  obtain ⟨v2, vs2, d2, ds2, p2, q2, rfl, rfl, rfl, h2, r2⟩ := trodAll_cons r1
  obtain ⟨v3, vs3, d3, ds3, p3, q3, rfl, rfl, rfl, h3, r3⟩ := trodAll_cons r2
  obtain ⟨v4, vs4, d4, ds4, p4, q4, rfl, rfl, rfl, h4, r4⟩ := trodAll_cons r3
  obtain ⟨v5, vs5, d5, ds5, p5, q5, rfl, rfl, rfl, h5, r5⟩ := trodAll_cons r4
  obtain ⟨v6, vs6, d6, ds6, p6, q6, rfl, rfl, rfl, h6, r6⟩ := trodAll_cons r5
  obtain ⟨v7, vs7, d7, ds7, p7, q7, rfl, rfl, rfl, h7, r7⟩ := trodAll_cons r6
  obtain ⟨rfl, rfl, rfl⟩ := trodAll_nil r7
  obtain rfl : args = #[v0, v1, v2, v3, v4, v5, v6, v7] := Array.ext' hargs
  obtain ⟨x1, x2, rfl⟩ := open_range (hval 0 38 v0 rfl rfl)
  obtain ⟨y1, y2, rfl⟩ := open_range (hval 1 38 v1 rfl rfl)
  obtain ⟨a2, rfl⟩ := okWide_int Tryz.underlying3 (hval 2 3 v2 rfl rfl)
  obtain ⟨a3, rfl⟩ := okWide_int Tryz.underlying3 (hval 3 3 v3 rfl rfl)
  obtain ⟨a4, rfl⟩ := okWide_int Tryz.underlying3 (hval 4 3 v4 rfl rfl)
  obtain ⟨a5, rfl⟩ := okWide_int Tryz.underlying3 (hval 5 3 v5 rfl rfl)
  obtain ⟨a6, rfl⟩ := okWide_int Tryz.underlying2 (hval 6 2 v6 rfl rfl)
  obtain ⟨a7, rfl⟩ := okWide_int Tryz.underlying2 (hval 7 2 v7 rfl rfl)
  refine (walk x1 x2 y1 y2 a2 a3 a4 a5 a6 a7 W).mono fun e W' ⟨he, hk⟩ => ?_
  subst he
  exact ⟨_, rfl, post_true types (by rw [Tryz.params4]; decide +kernel) rfl hW' rfl (tb := 4) rfl Tryz.underlying4 hk⟩

set_option maxRecDepth 100000 in
theorem lifted (os : Os) (started : os.Started) (H : Type) (enc : TypeId × Value → H) :
    ReturnsInHanded {} Tryz.checked os 4 .any (Rows.dynamicsRangesSpec.pre6 enc Tryz.prog Tryz.f4 Rows.dynamicsRangesRow.domain false) (Rows.dynamicsRangesSpec.post enc Tryz.prog Tryz.f4 false true false false) := by
  refine returnsInHanded_of_change (C := Tryz.checked) own started (by kernel_rfl) Tryz.func4
    (ChangeSpec.witness6 (enc := enc) (C := Tryz.checked) false ⟨#[], #[.agg #[.int .i64 0, .int .i64 0], .agg #[.int .i64 0, .int .i64 0], .int .i64 0, .int .i64 0, .int .i64 0, .int .i64 0, .int .i64 0, .int .i64 0], []⟩ 8 (by kernel_rfl) (by kernel_rfl) (by kernel_rfl) (by kernel_rfl)) ?_
  intro W base args ds gs before hval hW _ _
  exact contract H enc W base args ds gs before hval hW

theorem proved : Rows.DynamicsRangesSaid :=
  OpenClaim.holds_of_wide 4 Tryz.f4 rfl rfl rfl rfl rfl rfl rfl ⟨rfl, rfl, rfl, rfl, rfl⟩ rfl rfl rfl rfl rfl (by kernel_rfl) Tryz.func4 (by kernel_rfl)
    (of_decide_eq_true (by kernel_rfl)) (by unfold Func.isWrapper; first | (rw [if_pos (by decide +kernel)]; kernel_rfl) | (rw [if_neg (by decide +kernel)]; exact ⟨rfl, rfl⟩))
    (fun os started H enc _ => lifted os started H enc)
end Go.Proofs.YtcifmjnfigcpmaaGreat

