/-
  BX, PART 8: slicing, lengths, making, building.
-/
import Derived.Test.YtcifmjnfigcpmaaGreatBxB
set_option linter.unusedSimpArgs false
set_option linter.unusedVariables false
set_option linter.unusedSectionVars false
namespace Go.Bx
variable {P : Program}
section
variable {φ : Phi} {σ : AHeap} {w : World} {ρ ρ' : Operand → Value} {o : Oper} {v : Value} {σ' : AHeap}

theorem run_bound {x x' : Value} {y n : Nat} (h : bound x y = some n) (hx : VRel φ x x') {z : Nat} (hz : y ≤ z) (code : BoundsCode) (w : World) : (Instr.sliceBound x' z code).run P w = .ok n w ∧ n ≤ y := by
  unfold bound at h
  split at h
  · cases hx
    split at h
    · rename_i hlt
      cases h
      have : 0 ≤ (_ : Int) ∧ _ := ⟨hlt.1, Int.le_trans hlt.2 (Int.ofNat_le.2 hz)⟩
      refine ⟨?_, by omega⟩
      simp only [Instr.sliceBound, asIntOf, Sem.run_bind, Sem.run_pure, Result.andThen, Sem.run_ite]
      rw [if_pos this]
    · cases h
  · cases h

/-- The bounds of a slice expression; 'y' is what the high bound may reach at the most in the interpreter, 'z' in the model. -/
theorem run_bounds {lo hi : Option Operand} {len y z h l : Nat} (isS : Bool) (hh : boundHi (hi.map ρ) y = some h) (hl : boundLo (lo.map ρ) h = some l) (hlo : ∀ x, lo = some x → VRel φ (ρ x) (ρ' x)) (hhi : ∀ x, hi = some x → VRel φ (ρ x) (ρ' x))
    (hyz : y ≤ z) (hlen : len = y) (w : World) : (Instr.sliceBounds isS len z (lo.map ρ') (hi.map ρ') none).run P w = .ok (l, h, z) w ∧ l ≤ h ∧ h ≤ y := by
  have hL : l ≤ h ∧ ∀ w, (match lo.map ρ' with
      | some v => (do let l ← Instr.sliceBound v h (if (none : Option Value).isSome then .slice3C else .sliceB); pure (l, h, z) : Sem (Nat × Nat × Nat))
      | none => (do let l ← pure 0; pure (l, h, z))).run P w = .ok (l, h, z) w := by
    cases lo with
    | none => simp [boundLo] at hl; subst hl; exact ⟨Nat.zero_le _, fun _ => rfl⟩
    | some x =>
      simp only [Option.map_some, boundLo] at hl
      exact ⟨(run_bound (P := P) hl (hlo x rfl) (Nat.le_refl _) .sliceB w).2, fun w => by simp [(run_bound (P := P) hl (hlo x rfl) (Nat.le_refl _) .sliceB w).1]⟩
  cases hi with
  | none =>
    simp [boundHi] at hh
    subst hh
    subst hlen
    refine ⟨?_, hL.1, Nat.le_refl _⟩
    simp only [Instr.sliceBounds, Option.map_none, Sem.run_bind, Sem.run_pure, Result.andThen_ok]
    exact hL.2 w
  | some x =>
    simp only [Option.map_some, boundHi] at hh
    have := run_bound (P := P) hh (hhi x rfl) hyz (if isS then .sliceAcap else .sliceAlen) w
    refine ⟨?_, hL.1, this.2⟩
    simp only [Instr.sliceBounds, Option.map_some, Sem.run_bind, Sem.run_pure, Result.andThen_ok, this.1]
    exact hL.2 w

theorem ok_slcS {t : TypeId} {x : Operand} {lo hi : Option Operand} (ho : o.op = .slice t x lo hi none) (ht : P.underlying t = some .string) (hx : VRel φ (ρ x) (ρ' x)) (hlo : ∀ x, lo = some x → VRel φ (ρ x) (ρ' x)) (hhi : ∀ x, hi = some x → VRel φ (ρ x) (ρ' x))
    (hR : R P φ σ w) (h : op1 ρ σ (.slcS x lo hi) = some (v, σ')) : OpOk P φ σ w ρ' o v σ' := by
  cases hp : ρ x with
  | string s =>
    simp only [op1, hp] at h
    cases hh : boundHi (hi.map ρ) s.size with
    | none => simp [hh] at h
    | some n =>
      simp only [hh] at h
      cases hl : boundLo (lo.map ρ) n with
      | none => simp [hl] at h
      | some l =>
        simp only [hl, Option.some.injEq, Prod.mk.injEq] at h
        obtain ⟨rfl, rfl⟩ := h
        rw [hp] at hx
        generalize hq : ρ' x = a' at hx
        cases hx
        obtain ⟨hb, _, _⟩ := run_bounds (P := P) false hh hl hlo hhi (Nat.le_refl _) rfl w
        exact .pure hR (.string _) (by simp [execOp, ho, Instr.sliceAt, run_underlying ht, Instr.slice, hq, hb])
  | _ => simp [op1, hp] at h

theorem ok_slc {t e : TypeId} {x : Operand} {s : Nat} {lo hi : Option Operand} (ho : o.op = .slice t x lo hi none) (ht : P.underlying t = some (.slice e)) (hs : sizeT P e = some s) (hx : VRel φ (ρ x) (ρ' x))
    (hlo : ∀ x, lo = some x → VRel φ (ρ x) (ρ' x)) (hhi : ∀ x, hi = some x → VRel φ (ρ x) (ρ' x)) (hR : R P φ σ w) (h : op1 ρ σ (.slc s x lo hi) = some (v, σ')) : OpOk P φ σ w ρ' o v σ' := by
  cases hp : ρ x with
  | slice a len fl =>
    rw [hp] at hx
    generalize hq : ρ' x = a' at hx
    cases a with
    | none =>
      simp only [op1, hp] at h
      cases hh : boundHi (hi.map ρ) 0 with
      | none => simp [hh] at h
      | some n =>
        simp only [hh] at h
        cases hl : boundLo (lo.map ρ) n with
        | none => simp [hl] at h
        | some l =>
          simp only [hl, Option.some.injEq, Prod.mk.injEq] at h
          obtain ⟨rfl, rfl⟩ := h
          cases hx
          obtain ⟨hb, h1, h2⟩ := run_bounds (P := P) true hh hl hlo hhi (Nat.le_refl 0) rfl w
          obtain rfl : n = 0 := by omega
          obtain rfl : l = 0 := by omega
          exact .pure hR .slcN (by simp [execOp, ho, Instr.sliceAt, run_underlying ht, Instr.slice, hq, hb, run_sizeT hs])
    | some a =>
      simp only [op1, hp] at h
      cases hh : boundHi (hi.map ρ) len with
      | none => simp [hh] at h
      | some n =>
        simp only [hh] at h
        cases hl : boundLo (lo.map ρ) n with
        | none => simp [hl] at h
        | some l =>
          simp only [hl, Option.some.injEq, Prod.mk.injEq] at h
          obtain ⟨rfl, rfl⟩ := h
          cases hx with
          | slc h0 hc hf =>
            rename_i a' c
            obtain ⟨hb, h1, h2⟩ := run_bounds (P := P) true hh hl hlo hhi hc rfl w
            refine .pure hR (v' := .slice (if c = l then some a' else some (a'.add (l * s))) (n - l) (c - l)) ?_ ?_
            · have hsp : (if c = l then some a' else some (a'.add (l * s))) = some (if c = l then a' else a'.add (l * s)) := by split <;> rfl
              rw [hsp]
              refine .slc ?_ (by omega) ?_
              · by_cases he : n - l = 0
                · exact .inl he
                · right
                  rw [if_neg (by omega)]
                  exact (h0.resolve_left (by omega)).add _
              · intro hfl
                by_cases hl0 : l = 0
                · subst hl0
                  simp only [Nat.beq_refl, cond_true] at hfl
                  have := hf hfl
                  have e : (if c = 0 then a' else a'.add (0 * s)) = a' := by simp [Addr.add]
                  rw [e]
                  refine ⟨by simpa using this.1, ?_⟩
                  simpa using this.2
                · rw [beqF hl0] at hfl
                  simp at hfl
            · simp [execOp, ho, Instr.sliceAt, run_underlying ht, Instr.slice, hq, hb, run_sizeT hs]
  | func fn xs ys =>
    cases fn with
    | yield len =>
      simp only [op1, hp] at h
      rw [hp] at hx
      generalize hq : ρ' x = a' at hx
      cases hh : boundHi (hi.map ρ) len with
      | none => simp [hh] at h
      | some n =>
        simp only [hh] at h
        cases hl : boundLo (lo.map ρ) n with
        | none => simp [hl] at h
        | some l =>
          simp only [hl, Option.some.injEq, Prod.mk.injEq] at h
          obtain ⟨rfl, rfl⟩ := h
          cases hx with
          | bvs hff =>
            cases hff with
            | bvn =>
              obtain ⟨hb, h1, h2⟩ := run_bounds (P := P) true hh hl hlo hhi (Nat.le_refl 0) rfl w
              obtain rfl : n = 0 := by omega
              obtain rfl : l = 0 := by omega
              have e0 : bvS (0 - 0) (((#[] : Array Value).toList.drop (0 * s)).take ((0 - 0) * s)) = .func (.yield 0) #[] #[] := by simp [bvS]
              rw [e0]
              exact .pure hR (.bvs .bvn) (by simp [execOp, ho, Instr.sliceAt, run_underlying ht, Instr.slice, hq, hb, run_sizeT hs])
            | bve a' c =>
              obtain ⟨hb, h1, h2⟩ := run_bounds (P := P) true hh hl hlo hhi (Nat.zero_le c) rfl w
              obtain rfl : n = 0 := by omega
              obtain rfl : l = 0 := by omega
              have e0 : bvS (0 - 0) (((#[] : Array Value).toList.drop (0 * s)).take ((0 - 0) * s)) = .func (.yield 0) #[] #[] := by simp [bvS]
              rw [e0]
              refine .pure hR (v' := .slice (if c = 0 then some a' else some (a'.add (0 * s))) 0 (c - 0)) ?_ (by simp [execOp, ho, Instr.sliceAt, run_underlying ht, Instr.slice, hq, hb, run_sizeT hs])
              have hsp : (if c = 0 then some a' else some (a'.add (0 * s))) = some (if c = 0 then a' else a'.add (0 * s)) := by split <;> rfl
              rw [hsp]
              exact .bvs (.bve _ _)
            | bvs hc hz hsn h1 hcx =>
              rename_i c mc a'
              obtain ⟨hb, h1', h2⟩ := run_bounds (P := P) true hh hl hlo hhi hc rfl w
              refine .pure hR (v' := .slice (if c = l then some a' else some (a'.add (l * s))) (n - l) (c - l)) ?_ (by simp [execOp, ho, Instr.sliceAt, run_underlying ht, Instr.slice, hq, hb, run_sizeT hs])
              have hsp : (if c = l then some a' else some (a'.add (l * s))) = some (if c = l then a' else a'.add (l * s)) := by split <;> rfl
              rw [hsp]
              exact .bvs (bv_cut (.bvp hz hsn h1 hcx) (by omega) (by omega))
    | _ => simp [op1, hp] at h
  | _ => simp [op1, hp] at h

theorem ok_slcA {t e : TypeId} {m : Nat} {x : Operand} {s : Nat} {lo hi : Option Operand} (ho : o.op = .slice t x lo hi none) (ht : P.underlying t = some (.array m e)) (hs : sizeT P e = some s) (hx : VRel φ (ρ x) (ρ' x))
    (hlo : ∀ x, lo = some x → VRel φ (ρ x) (ρ' x)) (hhi : ∀ x, hi = some x → VRel φ (ρ x) (ρ' x)) (hR : R P φ σ w) (h : op1 ρ σ (.slcA m s x lo hi) = some (v, σ')) : OpOk P φ σ w ρ' o v σ' := by
  cases hp : ρ x with
  | pointer a =>
    cases a with
    | none => simp [op1, hp] at h
    | some a =>
      rw [hp] at hx
      generalize hq : ρ' x = a' at hx
      simp only [op1, hp] at h
      cases hh : boundHi (hi.map ρ) m with
      | none => simp [hh] at h
      | some n =>
        simp only [hh] at h
        cases hl : boundLo (lo.map ρ) n with
        | none => simp [hl] at h
        | some l =>
          simp only [hl, Option.some.injEq, Prod.mk.injEq] at h
          obtain ⟨rfl, rfl⟩ := h
          cases hx with
          | ptr ha =>
            rename_i a'
            obtain ⟨hb, h1, h2⟩ := run_bounds (P := P) false hh hl hlo hhi (Nat.le_refl _) rfl w
            refine .pure hR (v' := .slice (some (if m = l then a' else a'.add (l * s))) (n - l) (m - l)) ?_ ?_
            · refine .slc ?_ (by omega) (by simp)
              by_cases he : n - l = 0
              · exact .inl he
              · right
                rw [if_neg (by omega)]
                exact ha.add _
            · simp [execOp, ho, Instr.sliceAt, run_underlying ht, hq, hb, run_sizeT hs, Instr.sureAddr]
  | func fn xs ys =>
    cases fn with
    | methodOf u nm =>
      simp only [op1, hp] at h
      rw [hp] at hx
      generalize hq : ρ' x = a' at hx
      cases hh : boundHi (hi.map ρ) m with
      | none => simp [hh] at h
      | some n =>
        simp only [hh] at h
        cases hl : boundLo (lo.map ρ) n with
        | none => simp [hl] at h
        | some l =>
          simp only [hl, Option.some.injEq, Prod.mk.injEq] at h
          obtain ⟨rfl, rfl⟩ := h
          cases hx with
          | bvp hff =>
            cases hff with
            | bvp hz hsn h1 hcx =>
              rename_i mc a'
              obtain ⟨hb, h1', h2⟩ := run_bounds (P := P) false hh hl hlo hhi (Nat.le_refl _) rfl w
              refine .pure hR (v' := .slice (some (if m = l then a' else a'.add (l * s))) (n - l) (m - l)) (.bvs (bv_cut (.bvp hz hsn h1 hcx) (by omega) (by omega))) ?_
              simp [execOp, ho, Instr.sliceAt, run_underlying ht, hq, hb, run_sizeT hs, Instr.sureAddr]
    | _ => simp [op1, hp] at h
  | _ => simp [op1, hp] at h

theorem ok_lenS {t : TypeId} {x : Operand} (ho : o.op = .call { callee := .builtin .len, args := #[x], argTypes := #[t] }) (ht : P.underlying t = some .string) (hx : VRel φ (ρ x) (ρ' x)) (hR : R P φ σ w) (h : op1 ρ σ (.lenO true x) = some (v, σ')) :
    OpOk P φ σ w ρ' o v σ' := by
  cases hp : ρ x with
  | string s =>
    simp only [op1, hp, Option.some.injEq, Prod.mk.injEq] at h
    obtain ⟨rfl, rfl⟩ := h
    rw [hp] at hx
    generalize hq : ρ' x = a' at hx
    cases hx
    exact .pure hR (.int _ _) (by simp [execOp, ho, resolve, invoke, builtin, Builtin.len_, run_underlying ht, hq, goInt])
  | _ => simp [op1, hp] at h

theorem ok_lenL {t e : TypeId} {x : Operand} (ho : o.op = .call { callee := .builtin .len, args := #[x], argTypes := #[t] }) (ht : P.underlying t = some (.slice e)) (hx : VRel φ (ρ x) (ρ' x)) (hR : R P φ σ w) (h : op1 ρ σ (.lenO false x) = some (v, σ')) :
    OpOk P φ σ w ρ' o v σ' := by
  cases hp : ρ x with
  | slice a n c =>
    simp only [op1, hp, Option.some.injEq, Prod.mk.injEq] at h
    obtain ⟨rfl, rfl⟩ := h
    rw [hp] at hx
    generalize hq : ρ' x = a' at hx
    cases hx <;> exact .pure hR (.int _ _) (by simp [execOp, ho, resolve, invoke, builtin, Builtin.len_, run_underlying ht, hq, goInt])
  | func fn xs ys =>
    cases fn with
    | yield n =>
      simp only [op1, hp, Option.some.injEq, Prod.mk.injEq] at h
      obtain ⟨rfl, rfl⟩ := h
      rw [hp] at hx
      generalize hq : ρ' x = a' at hx
      cases hx with
      | bvs hff => cases hff <;> exact .pure hR (.int _ _) (by simp [execOp, ho, resolve, invoke, builtin, Builtin.len_, run_underlying ht, hq, goInt])
    | _ => simp [op1, hp] at h
  | _ => simp [op1, hp] at h

theorem ok_lenC {t : TypeId} {x : Operand} {n : Nat} (ho : o.op = .call { callee := .builtin .len, args := #[x], argTypes := #[t] }) (ht : (∃ e, P.underlying t = some (.array n e)) ∨ ∃ a e, P.underlying t = some (.pointer a) ∧ P.underlying a = some (.array n e)) (hR : R P φ σ w)
    (h : op1 ρ σ (.lenC n) = some (v, σ')) : OpOk P φ σ w ρ' o v σ' := by
  simp only [op1, Option.some.injEq, Prod.mk.injEq] at h
  obtain ⟨rfl, rfl⟩ := h
  rcases ht with ⟨e, ht⟩ | ⟨a, e, ht, ha⟩
  · exact .pure hR (.int _ _) (by simp [execOp, ho, resolve, invoke, builtin, Builtin.len_, run_underlying ht, goInt])
  · exact .pure hR (.int _ _) (by simp [execOp, ho, resolve, invoke, builtin, Builtin.len_, run_underlying ht, run_underlying ha, goInt])

theorem minmax_sound : ∀ (isMax : Bool) (l l' : List Value) (x x' u : Value), minmaxA isMax x l = some u → VsRel φ l l' → VRel φ x x' → ∀ w, (l'.foldlM (if isMax then Builtin.max2 else Builtin.min2) x').run P w = .ok x' w ∧ l = [] ∧ u = x ∨ (∃ k n, u = .int k n) ∧ (l'.foldlM (if isMax then Builtin.max2 else Builtin.min2) x').run P w = .ok u w
  | isMax, [], _, x, x', u, h, .nil, hx, w => by
    simp only [minmaxA] at h
    cases x <;> simp at h <;> subst h <;> exact .inl ⟨rfl, rfl, rfl⟩
  | isMax, y :: l, _, x, x', u, h, .cons hy hl, hx, w => by
    right
    unfold minmaxA at h
    split at h
    · contradiction
    · rename_i k a l2 b rest e
      cases e
      cases hx; cases hy
      split at h
      · rename_i hk
        subst hk
        have ih := minmax_sound isMax l _ _ _ u h hl (VRel.int (φ := φ) k (if isMax then (if a < b then b else a) else (if b < a then b else a))) w
        have hstep : ((if isMax then Builtin.max2 else Builtin.min2) (.int k a) (.int k b)).run P w = .ok (.int k (if isMax then (if a < b then b else a) else (if b < a then b else a))) w := by
          cases isMax <;> simp [Builtin.max2, Builtin.min2]
        rcases ih with ⟨h1, h2, h3⟩ | ⟨h1, h2⟩
        · subst h2
          refine ⟨⟨_, _, h3⟩, ?_⟩
          rw [List.foldlM_cons, Sem.run_bind, hstep]
          simp only [Result.andThen_ok]
          rw [h1, h3]
        · refine ⟨h1, ?_⟩
          rw [List.foldlM_cons, Sem.run_bind, hstep]
          simpa using h2
      · cases h
    · cases h

end
end Go.Bx

namespace Go.Bx
variable {P : Program}
section
variable {φ : Phi} {σ : AHeap} {w : World} {ρ ρ' : Operand → Value} {o : Oper} {v : Value} {σ' : AHeap}

theorem ok_minmax {b : Builtin} {args : Array Operand} {ats : Array TypeId} {isMax : Bool} (hb : b = if isMax then .max else .min) (ho : o.op = .call { callee := .builtin b, args := args, argTypes := ats }) (hx : ∀ x ∈ args.toList, VRel φ (ρ x) (ρ' x)) (hR : R P φ σ w)
    (h : op1 ρ σ (.minmax isMax args.toList) = some (v, σ')) : OpOk P φ σ w ρ' o v σ' := by
  simp only [op1] at h
  cases hl : args.toList with
  | nil => simp [hl] at h
  | cons x rest =>
    simp only [hl, List.map_cons] at h
    cases hm : minmaxA isMax (ρ x) (rest.map ρ) with
    | none => simp [hm] at h
    | some u =>
      simp only [hm, Option.some.injEq, Prod.mk.injEq] at h
      obtain ⟨rfl, rfl⟩ := h
      have hx0 := hx x (by simp [hl])
      have hxs : VsRel φ (rest.map ρ) (rest.map ρ') := vs_map fun y hy => hx y (by simp [hl, hy])
      have hargs : (args.map ρ').toList = ρ' x :: rest.map ρ' := by simp [hl]
      have hrun : ∀ u' : Value, ((rest.map ρ').foldlM (if isMax then Builtin.max2 else Builtin.min2) (ρ' x)).run P w = .ok u' w → (execOp ρ' o).run P w = .ok (.value u') w := by
        intro u' hu
        subst hb
        cases isMax <;> simp only [Bool.false_eq_true, if_false, if_true] at hu ho <;>
          simp only [execOp, ho, resolve, invoke, builtin, Builtin.min_, Builtin.max_, hargs, hu, Sem.run_bind, Sem.run_pure, Result.andThen_ok]
      rcases minmax_sound isMax _ _ _ _ _ hm hxs hx0 w with ⟨h1, h2, h3⟩ | ⟨⟨k, n, h3⟩, h2⟩
      · subst h3
        exact .pure hR hx0 (hrun _ h1)
      · subst h3
        exact .pure hR (.int _ _) (hrun _ h2)

theorem flatten_get (z : List Value) : ∀ (n i : Nat), i < n * z.length → (List.replicate n z).flatten[i]? = z[i % z.length]?
  | 0, i, h => by omega
  | n + 1, i, h => by
    rw [List.replicate_succ, List.flatten_cons]
    by_cases hi : i < z.length
    · rw [List.getElem?_append_left hi, Nat.mod_eq_of_lt hi]
    · rw [List.getElem?_append_right (by omega), flatten_get z n (i - z.length) (by rw [Nat.add_mul] at h; omega), Nat.mod_eq_sub_mod (by omega : i ≥ z.length)]

theorem zeroRow_eq (z : Array Value) (n : Nat) : (((Array.range (n * z.size)).map fun i => z[i % z.size]!)).toList = (List.replicate n z.toList).flatten := by
  apply List.ext_getElem?
  intro i
  by_cases hi : i < n * z.size
  · have hz : 0 < z.size := by
      rcases Nat.eq_zero_or_pos z.size with h0 | h0
      · rw [h0] at hi; omega
      · exact h0
    rw [flatten_get z.toList n i (by simpa using hi)]
    have hm : i % z.size < z.size := Nat.mod_lt _ hz
    simp [hi, hm]
  · have hl : ((List.replicate n z.toList).flatten).length = n * z.size := by simp
    rw [List.getElem?_eq_none (by simp; omega), List.getElem?_eq_none (by omega)]

theorem range0 (f g : Nat → Value) : (Array.range 0).map f = (Array.range 0).map g := by apply Array.ext <;> simp

theorem ok_makeSlice {t e : TypeId} {l c : Operand} {i : TypeInfo} {z : List Value} (ho : o.op = .makeSlice t l c) (ht : P.underlying t = some (.slice e)) (hi : P.info? e = some i) (hz : zeroOf P e = some z) (hzl : z.length = i.size)
    (hl : VRel φ (ρ l) (ρ' l)) (hc : VRel φ (ρ c) (ρ' c)) (hR : R P φ σ w) (h : op1 ρ σ (.makeSlice e z i.bytes l c) = some (v, σ')) : OpOk P φ σ w ρ' o v σ' := by
  cases hp : ρ l with
  | int ka a =>
    cases hq : ρ c with
    | int kb b =>
      simp only [op1, hp, hq] at h
      rw [Bool.cond_eq_ite] at h
      split at h
      · rename_i hb
        simp only [Option.some.injEq, Prod.mk.injEq] at h
        obtain ⟨rfl, rfl⟩ := h
        simp only [Bool.and_eq_true, decide_eq_true_eq] at hb
        obtain ⟨⟨⟨h0, h1⟩, h2⟩, h3⟩ := hb
        rw [hp] at hl
        rw [hq] at hc
        generalize hp' : ρ' l = a' at hl
        generalize hq' : ρ' c = b' at hc
        cases hl; cases hc
        obtain ⟨i', zv, hi', hzv, hcl, hst, rfl⟩ := zeroOf_spec hz
        obtain rfl : i = i' := Option.some.inj (hi.symm.trans hi')
        simp only [Array.length_toList] at hzl
        obtain ⟨m, rfl⟩ := Int.eq_ofNat_of_zero_le h0
        obtain ⟨n, rfl⟩ := Int.eq_ofNat_of_zero_le (Int.le_trans h0 h1)
        have hmn : m ≤ n := by omega
        have hw : ∀ k : Nat, (k : Int) ≤ 140737488355328 → IntKind.wrap .i64 (k : Int) = (k : Int) := by
          intro k hk
          have : (k : Int) % 2 ^ 64 = k := Int.emod_eq_of_lt (by omega) (by omega)
          simp [IntKind.wrap, IntKind.bits, IntKind.signed]
          omega
        have hbig : ¬ ((281474976710656 : Int) < (i.bytes : Int) * (n : Int)) := by rw [Int.mul_comm]; omega
        have hcells : ((Array.range (n * i.size)).map (fun j => zv.cells[j % zv.cells.size]!)).toList = (List.replicate n zv.cells.toList).flatten := by
          rw [← hzl]; exact zeroRow_eq zv.cells n
        have hones : ∀ u ∈ (List.replicate n zv.cells.toList).flatten, u.one1 = true := by
          intro u hu
          obtain ⟨l', hl', hu'⟩ := List.mem_flatten.1 hu
          rw [List.eq_of_mem_replicate hl'] at hu'
          exact closed_one hst hcl u hu'
        have hrel : VsRel φ (List.replicate n zv.cells.toList).flatten (List.replicate n zv.cells.toList).flatten := by
          refine vs_of_all fun u hu => ?_
          obtain ⟨l', hl', hu'⟩ := List.mem_flatten.1 hu
          rw [List.eq_of_mem_replicate hl'] at hu'
          obtain ⟨j, hj⟩ := List.mem_iff_getElem?.1 hu'
          obtain ⟨u', hu'', hr⟩ := ((closed_rel φ hcl).cells hst).get j u hj
          rw [hj] at hu''
          cases hu''
          exact hr
        refine ⟨_, _, _, hR.push hrel hones e ((Array.range (n * i.size)).map (fun j => zv.cells[j % zv.cells.size]!)) ?_ (some n) ?_, slcNew_rel hmn, .inl ?_⟩
        · intro j u hj
          rw [← hcells, Array.getElem?_toList] at hj
          exact hj
        · intro n' e; cases e; simp [Program.cellsOf, hi]
        · have hg : ¬ (((n : Int) < 0 ∨ (m : Int) < 0) ∨ n < m) := by omega
          by_cases hn0 : n * i.size = 0
          · simp [hg, execOp, ho, Instr.makeSlice, run_underlying ht, hp', hq', asInt, asIntOf, run_info hi, hw m (by omega), hw n h3, hbig, run_size hi, hn0, newRow]
            rw [range0]
          · simp [hg, execOp, ho, Instr.makeSlice, run_underlying ht, hp', hq', asInt, asIntOf, run_info hi, hw m (by omega), hw n h3, hbig, run_size hi, hn0, run_zeroV hi hzv, newRow]
      · cases h
    | _ => simp [op1, hp, hq] at h
  | _ => simp [op1, hp] at h

theorem foldl_setAt : ∀ (vs : List Value) (off k : Nat) (cs : Array Value), off + k + vs.length ≤ cs.size →
    ((vs.zipIdx k).foldl (fun cs (p : Value × Nat) => cs.setIfInBounds (off + p.2) p.1) cs).toList = setAt cs.toList (off + k) vs
  | [], off, k, cs, _ => by simp [setAt]
  | v :: vs, off, k, cs, h => by
    simp only [List.length_cons] at h
    rw [List.zipIdx_cons, List.foldl_cons, foldl_setAt vs off (k + 1) _ (by simp; omega)]
    have e := list_seg_step cs.toList (off + k) v vs (by simp; omega)
    simp only [setAt, Array.toList_setIfInBounds, List.length_cons]
    rw [show off + (k + 1) = off + k + 1 by omega, show off + k + (vs.length + 1) = off + k + 1 + vs.length by omega]
    simp only [List.append_assoc] at e
    rw [e, show off + k + (vs.length + 1) = off + k + 1 + vs.length by omega]

theorem fill_sound (place place' : Nat → Option (Nat × Nat)) (hpl : ∀ i p, place i = some p → place' i = some p) : ∀ (ps : List (Nat × Operand)) (qs : List (Nat × Nat × Operand)), partsWith place ps = some qs → (∀ x ∈ ps, VRel φ (ρ x.2) (ρ' x.2)) →
    ∀ (cells : List Value) (cells' : Array Value), VsRel φ cells cells'.toList → (∀ x ∈ cells, x.one1 = true) → ∀ out, fillL cells (qs.map fun p => (p.1, p.2.1, ρ p.2.2)) = some out →
    ∃ out', Instr.fill place' cells' (ps.map fun p => (p.1, ρ' p.2)) = some out' ∧ VsRel φ out out'.toList ∧ (∀ x ∈ out, x.one1 = true) ∧ out.length = cells.length
  | [], qs, hq, _, cells, cells', hc, h1, out, h => by
    simp only [partsWith, Option.some.injEq] at hq
    subst hq
    simp only [List.map_nil, fillL, Option.some.injEq] at h
    subst h
    exact ⟨cells', rfl, hc, h1, rfl⟩
  | (i, x) :: ps, qs, hq, hx, cells, cells', hc, h1, out, h => by
    simp only [partsWith] at hq
    cases hp : place i with
    | none => simp [hp] at hq
    | some p =>
      obtain ⟨off, s⟩ := p
      cases hr : partsWith place ps with
      | none => simp [hp, hr] at hq
      | some r =>
        simp only [hp, hr, Option.some.injEq] at hq
        subst hq
        simp only [List.map_cons, fillL] at h
        rw [Bool.cond_eq_ite] at h
        split at h
        · rename_i hb
          simp only [Bool.and_eq_true] at hb
          obtain ⟨⟨hb1, hb2⟩, hb3⟩ := hb
          have hb1 := Nat.eq_of_beq_eq_true hb1
          have hb2 := Nat.le_of_ble_eq_true hb2
          have hxr := hx (i, x) (by simp)
          have hlen := hc.length
          simp only [Array.length_toList] at hlen
          have hcl := hxr.cells hb3
          have hsz : (ρ' x).cells.size = s := by have := hcl.length; simp at this; omega
          have hf := foldl_setAt (ρ' x).cells.toList off 0 cells' (by simp; omega)
          obtain ⟨out', ho, hrel, hone, hl⟩ := fill_sound place place' hpl ps r hr (fun y hy => hx y (by simp [hy])) (setAt cells off (ρ x).cells.toList) (((ρ' x).cells.toList.zipIdx 0).foldl (fun cs (p : Value × Nat) => cs.setIfInBounds (off + p.2) p.1) cells')
            (by rw [hf]; exact hc.setAt off hcl) (write_one h1 (cells_one hb3 hxr.agg_one)) out h
          refine ⟨out', ?_, hrel, hone, ?_⟩
          · simp only [List.map_cons, Instr.fill, hpl i _ hp]
            rw [if_neg (by simp [hsz]; omega)]
            rw [← ho]
            congr 1
            rw [← Array.foldl_toList, Array.toList_zipIdx]
          · rw [hl, setAt_length (by simp; omega)]
        · cases h

theorem run_mapM_pure {α β : Type} (f : α → Sem β) (g : α → β) (w : World) : ∀ (l : List α), (∀ x ∈ l, (f x).run P w = .ok (g x) w) → (l.mapM f).run P w = .ok (l.map g) w
  | [], _ => by simp
  | x :: l, h => by
    rw [List.mapM_cons, Sem.run_bind, h x (by simp)]
    simp only [Result.andThen_ok, Sem.run_bind, run_mapM_pure f g w l (fun y hy => h y (by simp [hy])), Sem.run_pure, List.map_cons]

theorem ok_build_array {t e : TypeId} {m : Nat} {parts : Array (Nat × Operand)} {z : List Value} {s : Nat} {qs : List (Nat × Nat × Operand)} (ho : o.op = .build t parts) (hz : zeroOf P t = some z) (ht : P.underlying t = some (.array m e)) (hs : sizeT P e = some s)
    (hq : partsWith (fun i => some (i * s, s)) parts.toList = some qs) (hx : ∀ p ∈ parts.toList, VRel φ (ρ p.2) (ρ' p.2)) (hR : R P φ σ w) (h : op1 ρ σ (.build z qs) = some (v, σ')) : OpOk P φ σ w ρ' o v σ' := by
  simp only [op1] at h
  cases hf : fillL z (qs.map fun p => (p.1, p.2.1, ρ p.2.2)) with
  | none => simp [hf] at h
  | some out =>
    simp only [hf, Option.some.injEq, Prod.mk.injEq] at h
    obtain ⟨rfl, rfl⟩ := h
    obtain ⟨i, zv, hi, hzv, hcl, hst, rfl⟩ := zeroOf_spec hz
    obtain ⟨out', hf', hrel, hone, _⟩ := fill_sound (ρ' := ρ') (φ := φ) (fun i => some (i * s, s)) (fun i => some (i * s, s)) (fun _ _ h => h) parts.toList qs hq hx zv.cells.toList zv.cells ((closed_rel φ hcl).cells hst) (closed_one hst hcl) out hf
    refine .pure hR (v' := .agg out') (.agg (by simpa using hone) (by simpa using hrel)) ?_
    simp [execOp, ho, Instr.build, run_zeroV hi hzv, run_underlying ht, run_sizeT hs, hf']

theorem ok_build_struct {t : TypeId} {fs : Array Field} {parts : Array (Nat × Operand)} {z : List Value} {qs : List (Nat × Nat × Operand)} (ho : o.op = .build t parts) (hz : zeroOf P t = some z) (ht : P.underlying t = some (.struct fs))
    (hall : ∀ f ∈ fs.toList, ∃ s, sizeT P f.type = some s) (hq : partsWith (places P fs) parts.toList = some qs) (hx : ∀ p ∈ parts.toList, VRel φ (ρ p.2) (ρ' p.2)) (hR : R P φ σ w) (h : op1 ρ σ (.build z qs) = some (v, σ')) : OpOk P φ σ w ρ' o v σ' := by
  simp only [op1] at h
  cases hf : fillL z (qs.map fun p => (p.1, p.2.1, ρ p.2.2)) with
  | none => simp [hf] at h
  | some out =>
    simp only [hf, Option.some.injEq, Prod.mk.injEq] at h
    obtain ⟨rfl, rfl⟩ := h
    obtain ⟨i, zv, hi, hzv, hcl, hst, rfl⟩ := zeroOf_spec hz
    have hpl : ∀ (i : Nat) (p : Nat × Nat), places P fs i = some p → ((fs.map fun f => (f.offset, P.cellsOf f.type))[i]? : Option (Nat × Nat)) = some p := by
      intro i p hp
      unfold places at hp
      cases hfi : fs[i]? with
      | none => simp [hfi] at hp
      | some f =>
        simp only [hfi] at hp
        cases hsf : sizeT P f.type with
        | none => simp [hsf] at hp
        | some s => simp [hsf] at hp; simp [hfi, sizeT_cellsOf hsf, hp]
    obtain ⟨out', hf', hrel, hone, _⟩ := fill_sound (ρ' := ρ') (φ := φ) (places P fs) (fun i => (fs.map fun f => (f.offset, P.cellsOf f.type))[i]?) hpl parts.toList qs hq hx zv.cells.toList zv.cells ((closed_rel φ hcl).cells hst) (closed_one hst hcl) out hf
    have hm : (fs.mapM fun f => (do pure (f.offset, ← sizeOf f.type) : Sem (Nat × Nat))).run P w = .ok (fs.map fun f => (f.offset, P.cellsOf f.type)) w := by
      rw [Array.mapM_eq_mapM_toList]
      rw [Sem.run_map, run_mapM_pure _ (fun f => (f.offset, P.cellsOf f.type)) w fs.toList (fun f hf => by obtain ⟨s, hs⟩ := hall f hf; simp [run_sizeT hs, sizeT_cellsOf hs])]
      exact congrArg (fun a => Result.ok a w) (Array.ext' (by simp))
    refine .pure hR (v' := .agg out') (.agg (by simpa using hone) (by simpa using hrel)) ?_
    simp only [execOp, ho, Instr.build, Sem.run_bind, run_zeroV hi hzv, Result.andThen_ok, run_underlying ht, hm, Array.toList_map]
    rw [hf']
    rfl

theorem ok_buildSlice {t e : TypeId} {len : Nat} {parts : Array (Nat × Operand)} {z : List Value} {s : Nat} {qs : List (Nat × Nat × Operand)} (ho : o.op = .buildSlice t len parts) (ht : P.underlying t = some (.slice e)) (hs : sizeT P e = some s) (hz : zeroOf P e = some z)
    (hlen : len * s ≤ 2 ^ 24) (hzl : z.length = s) (hq : partsWith (fun i => some (i * s, s)) parts.toList = some qs) (hx : ∀ p ∈ parts.toList, VRel φ (ρ p.2) (ρ' p.2)) (hR : R P φ σ w) (h : op1 ρ σ (.buildSlice e ((List.replicate len z).flatten) len qs) = some (v, σ')) :
    OpOk P φ σ w ρ' o v σ' := by
  simp only [op1] at h
  cases hf : fillL ((List.replicate len z).flatten) (qs.map fun p => (p.1, p.2.1, ρ p.2.2)) with
  | none => simp [hf] at h
  | some out =>
    simp only [hf, Option.some.injEq, Prod.mk.injEq] at h
    obtain ⟨rfl, rfl⟩ := h
    obtain ⟨i, zv, hi, hzv, hcl, hst, rfl⟩ := zeroOf_spec hz
    simp only [Array.length_toList] at hzl
    have hones : ∀ u ∈ (List.replicate len zv.cells.toList).flatten, u.one1 = true := by
      intro u hu
      obtain ⟨l', hl', hu'⟩ := List.mem_flatten.1 hu
      rw [List.eq_of_mem_replicate hl'] at hu'
      exact closed_one hst hcl u hu'
    have hrel0 : VsRel φ (List.replicate len zv.cells.toList).flatten (List.replicate len zv.cells.toList).flatten := by
      refine vs_of_all fun u hu => ?_
      obtain ⟨l', hl', hu'⟩ := List.mem_flatten.1 hu
      rw [List.eq_of_mem_replicate hl'] at hu'
      obtain ⟨j, hj⟩ := List.mem_iff_getElem?.1 hu'
      obtain ⟨u', hu'', hr⟩ := ((closed_rel φ hcl).cells hst).get j u hj
      rw [hj] at hu''
      cases hu''
      exact hr
    have hcells : ((Array.range (len * s)).map (fun j => zv.cells[j % zv.cells.size]!)).toList = (List.replicate len zv.cells.toList).flatten := by
      rw [← hzl]; exact zeroRow_eq zv.cells len
    obtain ⟨out', hf', hrel, hone, hol⟩ := fill_sound (ρ' := ρ') (φ := φ) (fun i => some (i * s, s)) (fun i => some (i * s, s)) (fun _ _ h => h) parts.toList qs hq hx _ ((Array.range (len * s)).map (fun j => zv.cells[j % zv.cells.size]!))
      (by rw [hcells]; exact hrel0) hones out hf
    have hsz : out'.size = len * P.cellsOf e := by
      have := hrel.length
      simp only [Array.length_toList] at this
      rw [this, hol, sizeT_cellsOf hs]
      simp [hzl]
    refine ⟨_, _, _, hR.push hrel hone e out' (by simp) (some len) (by intro n' e; cases e; exact hsz), slcNew_rel (Nat.le_refl _), .inl ?_⟩
    have hnb : ¬ (2 ^ 24 < len * s) := by omega
    by_cases hn0 : len * s = 0
    · have he : (Array.range (len * s)).map (fun j => zv.cells[j % zv.cells.size]!) = (Array.range (len * s)).map (fun j => (#[] : Array Value)[j % (#[] : Array Value).size]!) := by rw [hn0]; exact range0 _ _
      rw [he] at hf'
      simp [execOp, ho, Instr.buildSlice, run_underlying ht, run_sizeT hs, hn0, newRow] at hf' ⊢
      simp [hf']
    · have hnb' : ¬ (16777216 < len * s) := by omega
      simp [execOp, ho, Instr.buildSlice, run_underlying ht, run_sizeT hs, hn0, newRow, run_zeroV hi hzv, hf', hnb']

end
end Go.Bx

namespace Go.Bx
variable {P : Program}

/-- A block gets a new name, its cells overwritten (an append in place). -/
theorem R.moved {φ : Phi} {σ : AHeap} {w : World} (h : R P φ σ w) {i b : Nat} {k : Option Nat} {obj : AObj} (hi : φ i = .live b 0 k) (hg : σ.get i = some obj) (hown : obj.own = true)
    {cs : List Value} {cs' : Array Value} (hr : ∀ (j : Nat) (v : Value), cs[j]? = some v → ∃ v' : Value, cs'[j]? = some v' ∧ VRel φ v v') (h1 : ∀ v ∈ cs, v.one1 = true) {c : Array Value}
    (hb : w.heap[b]? = some (.cells c obj.elem (0, 0))) (hsz : cs'.size = c.size) (hk : ∀ n, k = some n → c.size = n * P.cellsOf obj.elem) :
    Post P φ σ w ((φ.set i (.dead none)).set σ.size (.live b 0 k)) ((σ.kill i).push ⟨cs, obj.elem, true⟩) (w.setRow b cs') := by
  have hil : i < σ.size := h.id_lt (by rw [hi]; simp)
  have hab : φ σ.size = .absent := h.bnd _ (Nat.le_refl _)
  have hnz : φ.fz b = none := h.nofz i b 0 k obj hi hg hown
  have hle : Le φ ((φ.set i (.dead none)).set σ.size (.live b 0 k)) := by
    refine ⟨fun j hj => ?_, FLe.refl _⟩
    have hjs : j ≠ σ.size := fun e => hj (e ▸ hab)
    by_cases hji : j = i
    · exact .inr ⟨by rw [hji] at hjs; simp [Phi.set, hjs, hji], fun x => by rw [hji, hi]; simp⟩
    · exact .inl (by simp [Phi.set, hjs, hji])
  have hother : ∀ j b' o' k', φ j = .live b' o' k' → j ≠ i → b' ≠ b := fun j b' o' k' hj hne => Ne.symm (h.excl i j b 0 k b' o' k' obj hi hj hg hown (Ne.symm hne))
  have hget : ∀ j, ((σ.kill i).push ⟨cs, obj.elem, true⟩).get j = if j = σ.size then some ⟨cs, obj.elem, true⟩ else if j = i then none else σ.get j := by
    intro j
    rw [AHeap.get_push, AHeap.size_kill, AHeap.get_kill]
  have hphi : ∀ j b' o' k', ((φ.set i (.dead none)).set σ.size (.live b 0 k)) j = .live b' o' k' → (j = σ.size ∧ b' = b ∧ o' = 0 ∧ k' = k) ∨ (j ≠ σ.size ∧ j ≠ i ∧ φ j = .live b' o' k') := by
    intro j b' o' k' hj
    by_cases hjs : j = σ.size
    · simp only [Phi.set, hjs, if_true, St.live.injEq] at hj
      exact .inl ⟨hjs, hj.1.symm, hj.2.1.symm, hj.2.2.symm⟩
    · by_cases hji : j = i
      · simp [Phi.set, hjs, hji] at hj
        rw [if_neg (by omega)] at hj
        cases hj
      · simp only [Phi.set, hjs, hji, if_false] at hj
        exact .inr ⟨hjs, hji, hj⟩
  refine ⟨by rw [AHeap.size_push, AHeap.size_kill]; omega, hle, ?_, ⟨?_, ?_, ?_, ?_, fun b' c' hb' => ?_, ?_⟩, ?_, ?_, ?_, by simp, ⟨rfl, rfl, rfl⟩, fun _ _ h => .inl h⟩
  rotate_left 5
  · have : b' ≠ b := fun e => by rw [e] at hb'; simp [Phi.set, hnz] at hb'
    rw [setRow_get w b cs' b' this]
    exact h.froz b' c' hb'
  · intro j b' o' k' ob hj hgj hoj
    rw [hget] at hgj
    rcases hphi j b' o' k' hj with ⟨rfl, rfl, rfl, rfl⟩ | ⟨hjs, hji, hj'⟩
    · exact hnz
    · simp only [hjs, hji, if_false] at hgj
      exact h.nofz j b' o' k' ob hj' hgj hoj
  rotate_left 3
  · intro j hj ha
    have hjs : j ≠ σ.size := by omega
    have hji : j ≠ i := fun e => by rw [e, hi] at ha; cases ha
    exact ⟨by simp [Phi.set, hjs, hji, ha], by rw [hget]; simp [hjs, hji]⟩
  · intro j hj
    rw [AHeap.size_push, AHeap.size_kill] at hj
    have hjs : j ≠ σ.size := by omega
    have hji : j ≠ i := by omega
    simp only [Phi.set, hjs, hji, if_false]
    exact h.bnd j (by omega)
  · intro j p hj
    rw [hget]
    by_cases hjs : j = σ.size
    · subst hjs; simp [Phi.set] at hj
    · by_cases hji : j = i
      · simp [hjs, hji]; omega
      · simp only [Phi.set, hjs, hji, if_false] at hj
        simp [hjs, hji, h.dead j p hj]
  · intro j b' o' k' hj
    rcases hphi j b' o' k' hj with ⟨rfl, rfl, rfl, rfl⟩ | ⟨hjs, hji, hj'⟩
    · refine ⟨⟨cs, obj.elem, true⟩, cs', obj.elem, (0, 0), by rw [hget]; simp, setRow_heap w b' c cs' _ (0, 0) hb, ?_, fun _ => ⟨rfl, rfl, rfl, fun n hn => by rw [hsz]; exact hk n hn⟩⟩
      intro j' v hj'
      obtain ⟨v', hv', hrel⟩ := hr j' v hj'
      exact ⟨h1 v (List.mem_of_getElem? hj'), v', by rw [Nat.zero_add]; exact hv', hrel.mono hle⟩
    · obtain ⟨obj2, c2, e2, fr2, hg2, hb2, hcells2, hall2⟩ := h.live j b' o' k' hj'
      refine ⟨obj2, c2, e2, fr2, by rw [hget]; simp [hjs, hji, hg2], by rw [setRow_get w b cs' b' (hother j b' o' k' hj' hji)]; exact hb2, ?_, hall2⟩
      intro j' v hj''
      obtain ⟨ho, v', hv', hrel⟩ := hcells2 j' v hj''
      exact ⟨ho, v', hv', hrel.mono hle⟩
  · intro j l b1 o1 k1 b2 o2 k2 ob hj hl hgj hoj hne
    rw [hget] at hgj
    rcases hphi j b1 o1 k1 hj with ⟨rfl, rfl, rfl, rfl⟩ | ⟨hjs, hji, hj'⟩
    · rcases hphi l b2 o2 k2 hl with ⟨rfl, rfl, rfl, rfl⟩ | ⟨hls, hli, hl'⟩
      · exact absurd rfl hne
      · exact Ne.symm (hother l b2 o2 k2 hl' hli)
    · rcases hphi l b2 o2 k2 hl with ⟨rfl, rfl, rfl, rfl⟩ | ⟨hls, hli, hl'⟩
      · exact hother j b1 o1 k1 hj' hji
      · simp only [hjs, hji, if_false] at hgj
        exact h.excl j l b1 o1 k1 b2 o2 k2 ob hj' hl' hgj hoj hne
  · rintro b' ⟨j, o', k', ob, hj, hgj, hoj⟩
    rw [hget] at hgj
    rcases hphi j b' o' k' hj with ⟨rfl, rfl, rfl, rfl⟩ | ⟨hjs, hji, hj'⟩
    · exact .inl ⟨i, 0, k', obj, hi, hg, hown⟩
    · simp only [hjs, hji, if_false] at hgj
      exact .inl ⟨j, o', k', ob, hj', hgj, hoj⟩
  · intro j b' o' k' h1' h2'
    rcases hphi j b' o' k' h2' with ⟨rfl, rfl, rfl, rfl⟩ | ⟨hjs, hji, hj'⟩
    · exact .inl ⟨i, 0, k', obj, hi, hg, hown⟩
    · rw [h1'] at hj'; cases hj'
  · intro b' hb' hn
    have : b' ≠ b := fun e => hn (e ▸ ⟨i, 0, k, obj, hi, hg, hown⟩)
    exact setRow_get w b cs' b' this

section
variable {φ : Phi} {σ : AHeap} {w : World} {ρ ρ' : Operand → Value} {o : Oper} {v : Value} {σ' : AHeap}

/-- What is to be appended, in the model. -/
theorem appCells_sound (hR : R P φ σ w) {sz : Nat} {x x' : Value} {n : Nat} {new : List Value} (h : appCells σ sz x = some (n, new)) (hx : VRel φ x x') :
    ∃ new', VsRel φ new new' ∧ (∀ v ∈ new, v.one1 = true) ∧ new.length = n * sz ∧ (∀ w, (Builtin.lenOf x').run P w = .ok n w) ∧ (∀ w1 : World, w1.heap = w.heap → (Builtin.firstCells sz n x').run P w1 = .ok new'.toArray w1) ∧
      (∀ m, m ≤ n → (Builtin.firstCells sz m x').run P w = .ok (new'.take (m * sz)).toArray w) := by
  unfold appCells at h
  split at h
  · cases h
    cases hx
    exact ⟨[], .nil, by simp, by simp, fun w => rfl, fun w1 _ => by simp [Builtin.firstCells], fun m hm => by simp [Builtin.firstCells]⟩
  · rename_i a n' fl
    by_cases hn0 : n' = 0
    · subst hn0
      simp only [Nat.beq_refl, cond_true, Option.some.injEq, Prod.mk.injEq] at h
      obtain ⟨rfl, rfl⟩ := h
      cases hx with
      | slc h0 hcp hf =>
        exact ⟨[], .nil, by simp, by simp, fun w => rfl, fun w1 _ => by simp [Builtin.firstCells, loadCells, loadCellsFrom], fun m hm => by
          obtain rfl : m = 0 := by omega
          simp [Builtin.firstCells, loadCells, loadCellsFrom]⟩
    rw [beqF hn0] at h
    simp only [cond_false] at h
    cases hc : σ.cells a (n' * sz) with
    | none => simp [hc] at h
    | some cs =>
      simp only [hc, Option.some.injEq, Prod.mk.injEq] at h
      obtain ⟨rfl, rfl⟩ := h
      cases hx with
      | slc h0 hcp hf =>
        rename_i a' c
        have ha := h0.resolve_left hn0
        obtain ⟨cs', hr, hl, h1, hcell⟩ := hR.cells ha hc
        have hl' : cs'.length = n' * sz := hr.length.trans hl
        refine ⟨cs', hr, h1, hl, fun w => rfl, fun w1 hw1 => ?_, fun m hm => ?_⟩
        · have := run_loadCells_list (P := P) w1 a' cs' (fun j v hj => by have := hcell j v hj; simpa [World.cell?, hw1] using this)
          rw [hl'] at this
          simpa [Builtin.firstCells] using this
        · have hle : m * sz ≤ n' * sz := Nat.mul_le_mul_right _ hm
          have := run_loadCells_list (P := P) w a' (cs'.take (m * sz)) (fun j v hj => hcell j v (by
            have hlt := (List.getElem?_eq_some_iff.1 hj).1
            simp at hlt
            rwa [List.getElem?_take_of_lt (by omega)] at hj))
          rw [List.length_take, hl', Nat.min_eq_left hle] at this
          simpa [Builtin.firstCells] using this
  · rename_i n' xs ys
    rw [Bool.cond_eq_ite] at h
    split at h
    · rename_i hsz
      have hsz := Nat.eq_of_beq_eq_true hsz
      simp only [Option.some.injEq, Prod.mk.injEq] at h
      obtain ⟨rfl, rfl⟩ := h
      cases hx with
      | bvs hff =>
        cases hff with
        | bvn => exact ⟨[], .nil, by simp, by simp, fun w => rfl, fun w1 _ => by simp [Builtin.firstCells], fun m hm => by simp [Builtin.firstCells]⟩
        | bve a' c =>
          exact ⟨[], .nil, by simp, by simp, fun w => rfl, fun w1 _ => by simp [Builtin.firstCells, loadCells, loadCellsFrom], fun m hm => by
            obtain rfl : m = 0 := by omega
            simp [Builtin.firstCells, loadCells, loadCellsFrom]⟩
        | bvs hc hz hsn h1 hx =>
          rename_i c mc a'
          have hlen := hx.length
          have hfr := hR.froze hz hsn
          have hcell : ∀ (j : Nat) (v : Value), ((mc.toList.drop a'.off).take xs.toList.length)[j]? = some v → w.cell? (a'.add j) = some v := fun j v hj => hfr j v (by
            have hlt := (List.getElem?_eq_some_iff.1 hj).1
            simp at hlt
            rwa [List.getElem?_take_of_lt (by simp; omega)] at hj)
          replace hlen := hlen.trans hsz
          refine ⟨(mc.toList.drop a'.off).take xs.toList.length, hx.toV, h1, hsz, fun w => rfl, fun w1 hw1 => ?_, fun m hm => ?_⟩
          · have := run_loadCells_list (P := P) w1 a' _ (fun j v hj => by have := hcell j v hj; simpa [World.cell?, hw1] using this)
            rw [hlen] at this
            simpa [Builtin.firstCells] using this
          · have hle : m * sz ≤ n' * sz := Nat.mul_le_mul_right _ hm
            have := run_loadCells_list (P := P) w a' (((mc.toList.drop a'.off).take xs.toList.length).take (m * sz)) (fun j v hj => hcell j v (by
              have hlt := (List.getElem?_eq_some_iff.1 hj).1
              rw [List.length_take] at hlt
              rwa [List.getElem?_take_of_lt (by omega)] at hj))
            rw [List.length_take, hlen, Nat.min_eq_left hle] at this
            simpa [Builtin.firstCells] using this
    · cases h
  · rename_i s
    rw [Bool.cond_eq_ite] at h
    split at h
    · rename_i hsz
      have hsz := Nat.eq_of_beq_eq_true hsz
      subst hsz
      simp only [Option.some.injEq, Prod.mk.injEq] at h
      obtain ⟨rfl, rfl⟩ := h
      cases hx
      have hsd : s.data.size = s.size := rfl
      refine ⟨strCells s, vs_of_all fun u hu => ?_, fun u hu => ?_, by simp [strCells], fun w => rfl, fun w1 _ => ?_, fun m hm => ?_⟩
      · simp only [strCells, List.mem_map] at hu; obtain ⟨b, _, rfl⟩ := hu; exact .int _ _
      · simp only [strCells, List.mem_map] at hu; obtain ⟨b, _, rfl⟩ := hu; rfl
      · simp only [Builtin.firstCells, Sem.run_pure]
        congr 1
        apply Array.ext'
        have he : (s.extract 0 s.size).data.toList = s.data.toList := by
          rw [ByteArray.data_extract, Array.toList_extract, List.extract_eq_take_drop]
          simp only [Nat.sub_zero, List.drop_zero]
          exact List.take_of_length_le (by simp only [Array.length_toList]; omega)
        rw [Array.toList_map, he]
        rfl
      · simp only [Builtin.firstCells, Sem.run_pure]
        congr 1
        apply Array.ext'
        have he : (s.extract 0 m).data.toList = s.data.toList.take m := by
          rw [ByteArray.data_extract, Array.toList_extract, List.extract_eq_take_drop]
          simp
        rw [Array.toList_map, he, Nat.mul_one]
        simp [strCells, List.map_take]
    · cases h
  · cases h

theorem zeroCells_size (z : Array Value) (n : Nat) : (Builtin.zeroCells z n).size = n * z.size := by simp [Builtin.zeroCells]

/-- The model's append, where the slice has room. -/
theorem run_append_room {t u e : TypeId} {i : TypeInfo} {d : TypeDesc} (ht : P.underlying t = some (.slice e)) (hu : P.underlying u = some d) (hd : (∃ e', d = .slice e') ∨ d = .string) (hi : P.info? e = some i) {ty : TypeId} {base : Option Addr} {sLen sCap n : Nat} {x : Value} {new : List Value}
    (hlen : ∀ w, (Builtin.lenOf x).run P w = .ok n w) (hx : (Builtin.firstCells i.size n x).run P w = .ok new.toArray w) (hroom : sLen + n ≤ sCap) :
    (Builtin.append_ #[t, u] ty #[.slice base sLen sCap, x]).run P w = (match base with
      | some a => ((storeCells (a.add (sLen * i.size)) new).run P w).andThen fun _ w' => .ok (.slice base (sLen + n) sCap) w'
      | none => .ok (.slice base (sLen + n) sCap) w) := by
  have hz2 : ∀ w, (underlying u).run P w = .ok d w := run_underlying hu
  rcases hd with ⟨e', rfl⟩ | rfl <;> (simp [Builtin.append_, run_underlying ht, hz2, run_size hi, hlen, hroom, hx]; cases base <;> simp)

theorem run_append_full {t u e : TypeId} {i : TypeInfo} {d : TypeDesc} {z : Value} (ht : P.underlying t = some (.slice e)) (hu : P.underlying u = some d) (hd : (∃ e', d = .slice e') ∨ d = .string) (hi : P.info? e = some i) (hzv : i.zero = some z) {ty : TypeId} {base : Option Addr} {sLen sCap n : Nat} {x : Value} {old new : List Value}
    (hlen : ∀ w, (Builtin.lenOf x).run P w = .ok n w) (hold : ∀ w1 : World, w1.heap = w.heap → (Builtin.firstCells i.size sLen (.slice base sLen sCap)).run P w1 = .ok old.toArray w1)
    (hx : ∀ w1 : World, w1.heap = w.heap → (Builtin.firstCells i.size n x).run P w1 = .ok new.toArray w1) (hfull : sCap < sLen + n) (h63 : sLen + n ≤ 140737488355328) (hb : (sLen + n) * i.bytes ≤ 140737488355328) :
    (Builtin.append_ #[t, u] ty #[.slice base sLen sCap, x]).run P w =
      .ok (.slice (some ⟨w.heap.size, 0, none⟩) (sLen + n) (grownCap w (sLen + n) sCap e)) (w.drew.alloc (.cells (old.toArray ++ new.toArray ++ Builtin.zeroCells z.cells (grownCap w (sLen + n) sCap e - (sLen + n))) e)) := by
  have hz2 : ∀ w, (underlying u).run P w = .ok d w := run_underlying hu
  have h1 : ¬ (sLen + n ≤ sCap) := by omega
  have h2 : ¬ ((9223372036854775807 : Int) < (sLen : Int) + (n : Int)) := by omega
  have h3 : ¬ (281474976710656 < Builtin.nextslicecap (sLen + n) sCap * i.bytes) := by have := growslice_fits hfull hb; omega
  have hf := hx w.drew rfl
  have hfo := hold w.drew rfl
  rcases hd with ⟨e', rfl⟩ | rfl <;> simp [Builtin.append_, run_underlying ht, hz2, run_size hi, run_info hi, run_zeroV hi hzv, hlen, h1, h2, h3, hf, hfo, Question.forced, newRow, grownCap] <;> (congr 2; apply Array.ext'; simp [List.append_assoc])

theorem grownCap_le (w : World) (need old : Nat) (e : TypeId) : need ≤ grownCap w need old e := by
  show need ≤ need + _
  omega

theorem ok_append {t u e : TypeId} {i : TypeInfo} {d : TypeDesc} {z : Value} {s x : Operand} (ho : o.op = .call { callee := .builtin .append, args := #[s, x], argTypes := #[t, u] }) (ht : P.underlying t = some (.slice e)) (hu : P.underlying u = some d)
    (hd : (∃ e', d = .slice e') ∨ d = .string) (hi : P.info? e = some i) (hzv : i.zero = some z) (hs0 : 0 < i.size) (hzs : z.cells.size = i.size) (hs : VRel φ (ρ s) (ρ' s)) (hx : VRel φ (ρ x) (ρ' x)) (hR : R P φ σ w)
    (h : op1 ρ σ (.append e i.size i.bytes s x) = some (v, σ')) : OpOk P φ σ w ρ' o v σ' := by
  simp only [op1] at h
  have hex : ∀ (v' : Value) (w' : World), (Builtin.append_ #[t, u] o.type #[ρ' s, ρ' x]).run P w = .ok v' w' → (execOp ρ' o).run P w = .ok (.value v') w' := by
    intro v' w' h1
    simp [execOp, ho, resolve, invoke, builtin, h1]
  generalize ρ s = sv at h hs
  generalize ρ' s = sv' at hs hex
  generalize ρ x = xv at h hx
  generalize ρ' x = xv' at hx hex
  unfold appendA at h
  cases hap : appCells σ i.size xv with
  | none => simp [hap] at h
  | some p =>
    obtain ⟨n, new⟩ := p
    simp only [hap] at h
    obtain ⟨new', hnr, hn1, hnl, hlen, hfc, _⟩ := appCells_sound (P := P) hR hap hx
    have hnl' : new'.length = n * i.size := hnr.length.trans hnl
    split at h
    · -- the nil slice
      rename_i l fl
      rw [Bool.cond_eq_ite] at h
      split at h
      · rename_i hl0
        cases hs
        rw [Bool.cond_eq_ite] at h
        split at h
        · rename_i hn0
          have hn0 := Nat.eq_of_beq_eq_true hn0
          subst hn0
          cases h
          exact .pure hR .slcN (hex _ _ (by rw [run_append_room ht hu hd hi hlen (hfc w rfl) (Nat.le_refl 0)]))
        · rename_i hn0
          rw [Bool.cond_eq_ite] at h
          split at h
          · rename_i hb
            cases h
            simp only [Bool.and_eq_true] at hb
            have hb1 := Nat.le_of_ble_eq_true hb.1
            have hb2 := Nat.le_of_ble_eq_true hb.2
            have hnp : 0 < n := by
              rcases Nat.eq_zero_or_pos n with rfl | h0
              · exact absurd rfl hn0
              · exact h0
            have hrun := run_append_full (P := P) (w := w) (ty := o.type) (base := none) (sLen := 0) (sCap := 0) (old := []) ht hu hd hi hzv hlen (fun w1 _ => by simp [Builtin.firstCells]) hfc (by omega) (by omega) (by rw [Nat.zero_add]; exact hb1)
            rw [Nat.zero_add] at hrun
            have hgc := grownCap_le w n 0 e
            have hpost := hR.drew.push hnr hn1 e (([] : List Value).toArray ++ new'.toArray ++ Builtin.zeroCells z.cells (grownCap w n 0 e - n)) (fun j v hj => by
              have hlt := (List.getElem?_eq_some_iff.1 hj).1
              simp only [List.nil_append, Array.append_assoc] 
              rw [Array.getElem?_append_right (by simp), Array.getElem?_append_left (by simpa using hlt)]
              simpa using hj) (some (grownCap w n 0 e)) (by
                intro n' e'; cases e'
                simp [zeroCells_size, hnl', Program.cellsOf, hi, hzs]
                rw [← Nat.add_mul]; congr 1; omega)
            exact ⟨_, _, _, (Post.drew hR).trans hpost, slcNew_rel hgc, .inl (hex _ _ hrun)⟩
          · cases h
      · cases h
    · -- a slice with a block
      rename_i a l fl
      cases hs with
      | slc h0 hcp hf =>
        rename_i a' c
        rw [Bool.cond_eq_ite] at h
        split at h
        · rename_i hn0
          have hn0 := Nat.eq_of_beq_eq_true hn0
          subst hn0
          cases h
          have : new' = [] := List.eq_nil_of_length_eq_zero (by rw [hnl']; omega)
          subst this
          exact .pure hR (.slc h0 hcp hf) (hex _ _ (by rw [run_append_room ht hu hd hi hlen (hfc w rfl) (by omega)]; simp [storeCells]))
        · rename_i hn0
          have hnp : 0 < n := by
            rcases Nat.eq_zero_or_pos n with rfl | h0
            · exact absurd rfl hn0
            · exact h0
          cases hg : σ.get a.block with
          | none => simp [hg] at h
          | some obj =>
            simp only [hg] at h
            rw [Bool.cond_eq_ite] at h
            split at h
            · rename_i hb
              simp only [Bool.and_eq_true] at hb
              obtain ⟨⟨⟨⟨⟨hown, hfl⟩, hel⟩, hb1⟩, hb2⟩, hb3⟩ := hb
              have hfl := Nat.eq_of_beq_eq_true hfl
              have hel := Nat.eq_of_beq_eq_true hel
              have hb1 := Nat.le_of_ble_eq_true hb1
              have hb2 := Nat.le_of_ble_eq_true hb2
              have hb3 := Nat.le_of_ble_eq_true hb3
              obtain ⟨hoff, hfr⟩ := hf hfl
              cases hs' : φ a.block with
              | absent => simp [hs'] at hfr
              | dead p => rw [hR.dead _ _ hs'] at hg; cases hg
              | live b o' k =>
                simp only [hs'] at hfr
                obtain ⟨rfl, rfl, rfl⟩ := hfr
                have hAR : ARel φ a ⟨b, 0, none⟩ := by simp [ARel, hs', hoff]
                obtain ⟨b', k', cA, hs2, ha2, hbk, hk, hcl, hcells, hones⟩ := hR.owned hAR hg hown
                rw [hs'] at hs2
                injection hs2 with e1 e2 e3
                subst e1; subst e3
                rw [hel] at hbk hk
                have hkc := hk c rfl
                have hcs : P.cellsOf e = i.size := by simp [Program.cellsOf, hi]
                rw [hcs] at hkc
                have hbe : (⟨a.block, a.off, none⟩ : Addr).block = a.block := rfl
                by_cases hroom : l + n ≤ c
                · -- the model writes in place
                  have hle : (l + n) * i.size ≤ cA.size := by rw [hkc]; exact Nat.mul_le_mul_right _ hroom
                  rw [Nat.add_mul] at hle
                  have hrunS := run_storeCells_at (P := P) b (l * i.size) e new' 0 cA w hbk (by rw [hnl']; omega) (hnr.one hn1)
                  have hrun := run_append_room (P := P) (w := w) (ty := o.type) (base := some ⟨b, 0, none⟩) ht hu hd hi hlen (hfc w rfl) hroom
                  simp only [add_eq, Nat.zero_add] at hrun
                  rw [hrunS] at hrun
                  simp only [Result.andThen_ok, Nat.add_zero] at hrun
                  rw [Bool.cond_eq_ite] at h
                  split at h
                  · rename_i hin
                    cases h
                    have hin := Nat.le_of_ble_eq_true hin
                    rw [Nat.add_mul] at hin
                    rw [← hel]
                    refine ⟨_, _, _, hR.put (cs := setAt obj.cells (l * i.size) new) hs' hg hown (write_rel hcells hnr (by omega) hcl) (write_one hones hn1) hbk (by simp; omega), ?_, .inl (hex _ _ hrun)⟩
                    exact .slc (.inr hAR) hroom (fun _ => ⟨hoff, by simp [hs']⟩)
                  · cases h
                    rw [← hel] at hbk ⊢
                    have htk : (obj.cells.take (l * i.size)).length = l * i.size := by simp; omega
                    have htk2 : (cA.toList.take (l * i.size)).length = l * i.size := by simp; omega
                    refine ⟨_, _, _, hR.moved (cs := obj.cells.take (l * i.size) ++ new) (cs' := (cA.toList.take (l * i.size) ++ new' ++ cA.toList.drop (l * i.size + new'.length)).toArray) hs' hg hown ?_ ?_ hbk (by simp; omega) (by intro n' e'; cases e'; rw [hel, hcs]; exact hkc), ?_, .inl (hex _ _ hrun)⟩
                    · intro j v hj
                      simp only [List.getElem?_toArray, List.append_assoc]
                      by_cases hjl : j < l * i.size
                      · rw [List.getElem?_append_left (by omega), List.getElem?_take_of_lt hjl] at hj
                        obtain ⟨_, v', hv', hrel⟩ := hcells j v hj
                        refine ⟨v', ?_, hrel⟩
                        rw [List.getElem?_append_left (by omega), List.getElem?_take_of_lt hjl, Array.getElem?_toList]
                        exact hv'
                      · rw [List.getElem?_append_right (by omega), htk] at hj
                        obtain ⟨v', hv', hrel⟩ := hnr.get _ _ hj
                        have hlt := (List.getElem?_eq_some_iff.1 hj).1
                        refine ⟨v', ?_, hrel⟩
                        rw [List.getElem?_append_right (by omega), htk2, List.getElem?_append_left (by omega)]
                        exact hv'
                    · intro v hv
                      rcases List.mem_append.1 hv with hv | hv
                      · exact hones v (List.mem_of_mem_take hv)
                      · exact hn1 v hv
                    · exact slcNew_rel hroom
                · -- the model makes a new block
                  have hin : ¬ ((l + n) * i.size ≤ obj.cells.length) := by
                    intro hin
                    have h1 : (l + n) * i.size ≤ c * i.size := by omega
                    have := Nat.le_of_mul_le_mul_right h1 hs0
                    omega
                  rw [Bool.cond_eq_ite, if_neg (fun hc => hin (Nat.le_of_ble_eq_true hc))] at h
                  cases h
                  have hcl2 : σ.cells a (l * i.size) = some (obj.cells.take (l * i.size)) := by
                    unfold AHeap.cells
                    simp only [hg, hoff, Nat.zero_add, List.drop_zero]
                    rw [Bool.cond_eq_ite, if_pos (Nat.ble_eq_true_of_le hb3)]
                  obtain ⟨old', hor, hol, ho1, hoc⟩ := hR.cells hAR hcl2
                  have hol' : old'.length = l * i.size := hor.length.trans hol
                  have hrun := run_append_full (P := P) (w := w) (ty := o.type) (base := some ⟨b, 0, none⟩) (sLen := l) (sCap := c) (old := old') ht hu hd hi hzv hlen (fun w1 hw1 => by
                    have := run_loadCells_list (P := P) w1 ⟨b, 0, none⟩ old' (fun j v hj => by have := hoc j v hj; simpa [World.cell?, hw1] using this)
                    rw [hol'] at this
                    simpa [Builtin.firstCells] using this) hfc (by omega) hb2 hb1
                  have hgc := grownCap_le w (l + n) c e
                  have hkill := hR.drew.kill hs'
                  have hpost := hkill.rel.push (cs := obj.cells.take (l * i.size) ++ new) (cs' := old' ++ new') (by
                      exact (hor.mono hkill.le).append (hnr.mono hkill.le)) (by
                      intro v hv
                      rcases List.mem_append.1 hv with hv | hv
                      · exact ho1 v hv
                      · exact hn1 v hv) e (old'.toArray ++ new'.toArray ++ Builtin.zeroCells z.cells (grownCap w (l + n) c e - (l + n))) (fun j v hj => by
                        have hlt := (List.getElem?_eq_some_iff.1 hj).1
                        rw [Array.getElem?_append_left (by simpa using hlt)]
                        simpa using hj) (some (grownCap w (l + n) c e)) (by
                      intro n' e'; cases e'
                      simp [zeroCells_size, hnl', hol', Program.cellsOf, hi, hzs]
                      rw [← Nat.add_mul, ← Nat.add_mul]; congr 1; omega)
                  exact ⟨_, _, _, (Post.drew hR).trans (hkill.trans hpost), slcNew_rel hgc, .inl (hex _ _ hrun)⟩
            · cases h
    · cases h

theorem ok_copy {t u e : TypeId} {z : Nat} {d s : Operand} (ho : o.op = .call { callee := .builtin .copy, args := #[d, s], argTypes := #[t, u] }) (ht : P.underlying t = some (.slice e)) (hz : sizeT P e = some z) (hd : VRel φ (ρ d) (ρ' d)) (hs : VRel φ (ρ s) (ρ' s)) (hR : R P φ σ w)
    (h : op1 ρ σ (.copy z d s) = some (v, σ')) : OpOk P φ σ w ρ' o v σ' := by
  simp only [op1] at h
  have hex : ∀ (v' : Value) (w' : World), (Builtin.copy_ #[t, u] o.type #[ρ' d, ρ' s]).run P w = .ok v' w' → (execOp ρ' o).run P w = .ok (.value v') w' := by
    intro v' w' h1
    simp [execOp, ho, resolve, invoke, builtin, h1]
  generalize ρ d = dv at h hd
  generalize ρ' d = dv' at hd hex
  generalize ρ s = sv at h hs
  generalize ρ' s = sv' at hs hex
  unfold copyA at h
  cases hap : appCells σ z sv with
  | none => simp [hap] at h
  | some p =>
    obtain ⟨n, new⟩ := p
    simp only [hap] at h
    obtain ⟨new', hnr, hn1, hnl, hlen, _, hfc⟩ := appCells_sound (P := P) hR hap hs
    split at h
    · cases h
      cases hd
      refine .pure hR (.int _ _) (hex _ _ ?_)
      have h0 := hfc 0 (Nat.zero_le _)
      simp [Builtin.copy_, run_underlying ht, run_sizeT hz, hlen, h0, goInt]
    · rename_i a dl fl
      cases hd with
      | slc h0 hcp hf =>
        rename_i a' c
        have hmn : min n dl ≤ n := Nat.min_le_left _ _
        have hrunc := hfc (min n dl) hmn
        rw [Bool.cond_eq_ite] at h
        split at h
        · rename_i hm0
          have hm0 := Nat.eq_of_beq_eq_true hm0
          cases h
          refine .pure hR (.int _ _) (hex _ _ ?_)
          rw [hm0] at hrunc
          simp [Builtin.copy_, run_underlying ht, run_sizeT hz, hlen, hm0, hrunc, goInt, storeCells]
        · rename_i hm0
          have hdl : dl ≠ 0 := by
            intro e
            subst e
            simp at hm0
          have ha := h0.resolve_left hdl
          cases hg : σ.get a.block with
          | none => simp [hg] at h
          | some obj =>
            simp only [hg] at h
            rw [Bool.cond_eq_ite] at h
            split at h
            · rename_i hb
              cases h
              simp only [Bool.and_eq_true] at hb
              have hb2 := Nat.le_of_ble_eq_true hb.2
              have hle : min n dl * z ≤ n * z := Nat.mul_le_mul_right _ hmn
              have htl : (new.take (min n dl * z)).length = min n dl * z := by simp [hnl, hle]
              obtain ⟨w', hrunS, hpost⟩ := hR.write (P := P) ha hg hb.1 (hnr.take (min n dl * z)) (fun v hv => hn1 v (List.mem_of_mem_take hv)) (by omega)
              refine ⟨_, _, _, hpost, .int _ _, .inl (hex _ _ ?_)⟩
              simp [Builtin.copy_, run_underlying ht, run_sizeT hz, hlen, hrunc, goInt, hrunS]
            · cases h
    · cases h

end
end Go.Bx

namespace Go.Bx
variable {P : Program}
section
variable {φ : Phi} {σ : AHeap} {w : World} {ρ ρ' : Operand → Value} {o : Oper} {v : Value} {σ' : AHeap}

theorem parts_mem {parts : Array (Nat × Operand)} (hx : ∀ x ∈ ((parts.toList.map (·.2)).toArray).toList, VRel φ (ρ x) (ρ' x)) : ∀ p ∈ parts.toList, VRel φ (ρ p.2) (ρ' p.2) :=
  fun p hp => hx p.2 (by simp only [List.mem_map]; exact ⟨p, hp, rfl⟩)

theorem op1_sound {aop : AOp} (hc : compOp P o.op = some aop) (hx : ∀ x ∈ o.op.operands.toList, VRel φ (ρ x) (ρ' x)) (hR : R P φ σ w) (h : op1 ρ σ aop = some (v, σ')) : OpOk P φ σ w ρ' o v σ' := by
  generalize ho : o.op = op at hc hx
  cases op with
  | move x =>
    simp only [compOp, Option.some.injEq] at hc; subst hc
    exact ok_mv (fun w => by simp [execOp, ho]) (hx x (by simp [Op.operands])) hR h
  | assign x =>
    simp only [compOp, Option.some.injEq] at hc; subst hc
    exact ok_mv (fun w => by simp [execOp, ho]) (hx x (by simp [Op.operands])) hR h
  | pick c a b =>
    simp only [compOp, Option.some.injEq] at hc; subst hc
    exact ok_pick ho (hx c (by simp [Op.operands])) (hx a (by simp [Op.operands])) (hx b (by simp [Op.operands])) hR h
  | alloc e =>
    simp only [compOp, Option.map_eq_some_iff] at hc
    obtain ⟨z, hz, rfl⟩ := hc
    exact ok_alloc ho hz hR h
  | box e x =>
    simp only [compOp, Option.some.injEq] at hc; subst hc
    exact ok_box ho (hx x (by simp [Op.operands])) hR h
  | build t parts =>
    simp only [compOp] at hc
    cases hz : zeroOf P t with
    | none => simp [hz] at hc
    | some z =>
      simp only [hz, Option.bind_eq_bind, Option.bind_some] at hc
      split at hc
      · rename_i fs ht
        split at hc
        · rename_i hall
          simp only [Option.bind_eq_some_iff, Option.some.injEq] at hc
          obtain ⟨qs, hq, rfl⟩ := hc
          refine ok_build_struct ho hz ht (fun f hf => ?_) hq (parts_mem hx) hR h
          have := List.all_eq_true.1 hall f hf
          exact Option.isSome_iff_exists.1 this
        · cases hc
      · rename_i n e ht
        simp only [Option.bind_eq_some_iff, Option.some.injEq] at hc
        obtain ⟨s, hs, qs, hq, rfl⟩ := hc
        exact ok_build_array ho hz ht hs hq (parts_mem hx) hR h
      · cases hc
  | buildSlice t len parts =>
    simp only [compOp] at hc
    split at hc
    · rename_i e ht
      simp only [Option.bind_eq_bind, Option.bind_eq_some_iff] at hc
      obtain ⟨s, hs, z, hz, hc⟩ := hc
      split at hc
      · rename_i hl
        simp only [Option.bind_eq_some_iff, Option.some.injEq] at hc
        obtain ⟨qs, hq, rfl⟩ := hc
        exact ok_buildSlice ho ht hs hz hl.1 hl.2 hq (parts_mem hx) hR h
      · cases hc
    · cases hc
  | load t x =>
    simp only [compOp, Option.map_eq_some_iff] at hc
    obtain ⟨s, hs, rfl⟩ := hc
    exact ok_load ho hs (hx x (by simp [Op.operands])) hR h
  | store t x y =>
    simp only [compOp, Option.map_eq_some_iff] at hc
    obtain ⟨s, hs, rfl⟩ := hc
    exact ok_store ho hs (hx x (by simp [Op.operands])) (hx y (by simp [Op.operands])) hR h
  | nilCheck x =>
    simp only [compOp, Option.some.injEq] at hc; subst hc
    exact ok_nilCheck ho (hx x (by simp [Op.operands])) hR h
  | binOp op t x y u =>
    simp only [compOp, Option.some.injEq] at hc; subst hc
    exact ok_bin ho (hx x (by simp [Op.operands])) (hx y (by simp [Op.operands])) hR h
  | unOp op t x =>
    simp only [compOp, Option.some.injEq] at hc; subst hc
    exact ok_un ho (hx x (by simp [Op.operands])) hR h
  | convert s d x =>
    simp only [compOp] at hc
    split at hc
    · rename_i k j hs hd
      cases hc
      exact ok_conv ho hs hd (hx x (by simp [Op.operands])) hR h
    · rename_i hs hd
      cases hc
      exact ok_strMv ho hs hd (hx x (by simp [Op.operands])) hR h
    · cases hc
  | makeInterface t x =>
    simp only [compOp] at hc
    split at hc
    · cases hc
    · rename_i d hn hd
      cases hc
      exact ok_mkI ho hd (fun ms e => hn ms e) (hx x (by simp [Op.operands])) hR h
    · cases hc
  | makeFunc fn a b =>
    cases fn <;> simp only [compOp, Option.some.injEq, reduceCtorEq] at hc
    subst hc
    exact ok_mkF ho (fun x hxm => hx x (by simp only [Op.operands, Array.toList_append, List.mem_append]; exact .inl hxm)) (fun x hxm => hx x (by simp only [Op.operands, Array.toList_append, List.mem_append]; exact .inr hxm)) hR h
  | makeSlice t l c =>
    simp only [compOp] at hc
    split at hc
    · rename_i e ht
      simp only [Option.bind_eq_bind, Option.bind_eq_some_iff] at hc
      obtain ⟨i, hi, z, hz, hc⟩ := hc
      split at hc
      · rename_i hl
        cases hc
        exact ok_makeSlice ho ht hi hz hl (hx l (by simp [Op.operands])) (hx c (by simp [Op.operands])) hR h
      · cases hc
    · cases hc
  | slice t x lo hi mx =>
    cases mx with
    | some m => simp [compOp] at hc
    | none =>
      have hlo : ∀ y, lo = some y → VRel φ (ρ y) (ρ' y) := fun y e => hx y (by simp [Op.operands, e])
      have hhi : ∀ y, hi = some y → VRel φ (ρ y) (ρ' y) := fun y e => hx y (by simp [Op.operands, e])
      have hxx := hx x (by simp [Op.operands])
      simp only [compOp] at hc
      split at hc
      · rename_i ht
        cases hc
        exact ok_slcS ho ht hxx hlo hhi hR h
      · rename_i e ht
        simp only [Option.bind_eq_bind, Option.bind_eq_some_iff, Option.some.injEq] at hc
        obtain ⟨s, hs, rfl⟩ := hc
        exact ok_slc ho ht hs hxx hlo hhi hR h
      · rename_i n e ht
        simp only [Option.bind_eq_bind, Option.bind_eq_some_iff, Option.some.injEq] at hc
        obtain ⟨s, hs, rfl⟩ := hc
        exact ok_slcA ho ht hs hxx hlo hhi hR h
      · cases hc
  | fieldAddr t x f =>
    simp only [compOp] at hc
    split at hc
    · rename_i fs ht
      split at hc
      · rename_i fl hf
        split at hc
        · rename_i s hs
          split at hc
          · cases hc
          · rename_i hs0
            cases hc
            exact ok_fieldAddr ho ht hf hs hs0 (hx x (by simp [Op.operands])) hR h
        · cases hc
      · cases hc
    · cases hc
  | field t x f =>
    simp only [compOp] at hc
    split at hc
    · rename_i fs ht
      split at hc
      · rename_i fl hf
        simp only [Option.map_eq_some_iff] at hc
        obtain ⟨s, hs, rfl⟩ := hc
        exact ok_field ho ht hf hs (hx x (by simp [Op.operands])) hR h
      · cases hc
    · cases hc
  | indexAddr t x i =>
    simp only [compOp] at hc
    split at hc
    · rename_i e ht
      simp only [Option.map_eq_some_iff] at hc
      obtain ⟨s, hs, rfl⟩ := hc
      exact ok_idxAddr_slice ho ht hs (hx x (by simp [Op.operands])) (hx i (by simp [Op.operands])) hR h
    · rename_i n e ht
      simp only [Option.map_eq_some_iff] at hc
      obtain ⟨s, hs, rfl⟩ := hc
      exact ok_idxAddr_array ho ht hs (hx x (by simp [Op.operands])) (hx i (by simp [Op.operands])) hR h
    · cases hc
  | index t x i =>
    simp only [compOp] at hc
    split at hc
    · rename_i ht
      cases hc
      exact ok_idxS ho ht (hx x (by simp [Op.operands])) (hx i (by simp [Op.operands])) hR h
    · rename_i n e ht
      simp only [Option.bind_eq_bind, Option.bind_eq_some_iff, Option.some.injEq] at hc
      obtain ⟨s, hs, sz, hsz, rfl⟩ := hc
      exact ok_idx ho ht hs hsz (hx x (by simp [Op.operands])) (hx i (by simp [Op.operands])) hR h
    · cases hc
  | typeAssert x xt t ok =>
    simp only [compOp] at hc
    split at hc
    · cases hc
    · rename_i d i hn hd hi
      split at hc
      · rename_i z hz
        split at hc
        · rename_i hcl
          cases hc
          exact ok_tassert ho hd (fun ms e => hn ms e) hi hz hcl (hx x (by simp [Op.operands])) hR h
        · cases hc
      · cases hc
    · cases hc
  | extract x i =>
    simp only [compOp, Option.some.injEq] at hc; subst hc
    exact ok_ext ho (hx x (by simp [Op.operands])) hR h
  | call c =>
    obtain ⟨cal, args, ats⟩ := c
    cases cal with
    | value f => simp only [compOp, Option.some.injEq] at hc; subst hc; simp [op1] at h
    | invoke r name => simp only [compOp, Option.some.injEq] at hc; subst hc; simp [op1] at h
    | builtin b =>
      have hxa : ∀ x ∈ args.toList, VRel φ (ρ x) (ρ' x) := fun x hxm => hx x (by simpa [Op.operands, Call.operands] using hxm)
      have ofList : ∀ {α : Type} (a : Array α) (l : List α), a.toList = l → a = l.toArray := fun a l e => by rw [← e]
      cases b <;> simp only [compOp, Option.some.injEq, reduceCtorEq] at hc
      case append =>
        split at hc
        · rename_i t u s x ha1 ha2
          obtain rfl := ofList _ _ ha1
          obtain rfl := ofList _ _ ha2
          split at hc
          · rename_i e e' ht hu
            split at hc
            · rename_i i hi
              split at hc
              · rename_i z hz
                split at hc
                · rename_i hs0
                  cases hc
                  exact ok_append ho ht hu (.inl ⟨_, rfl⟩) hi hz hs0.1 hs0.2 (hxa s (by simp)) (hxa x (by simp)) hR h
                · cases hc
              · cases hc
            · cases hc
          · rename_i e ht hu
            split at hc
            · rename_i i hi
              split at hc
              · rename_i z hz
                split at hc
                · rename_i hs0
                  cases hc
                  exact ok_append ho ht hu (.inr rfl) hi hz hs0.1 hs0.2 (hxa s (by simp)) (hxa x (by simp)) hR h
                · cases hc
              · cases hc
            · cases hc
          · cases hc
        · cases hc
      case copy =>
        split at hc
        · rename_i t u d s ha1 ha2
          obtain rfl := ofList _ _ ha1
          obtain rfl := ofList _ _ ha2
          split at hc
          · rename_i e ht
            simp only [Option.map_eq_some_iff] at hc
            obtain ⟨z, hz, rfl⟩ := hc
            exact ok_copy ho ht hz (hxa d (by simp)) (hxa s (by simp)) hR h
          · cases hc
        · cases hc
      case len =>
        split at hc
        · rename_i t x ha1 ha2
          obtain rfl := ofList _ _ ha1
          obtain rfl := ofList _ _ ha2
          split at hc
          · rename_i ht
            cases hc
            exact ok_lenS ho ht (hxa x (by simp)) hR h
          · rename_i e ht
            cases hc
            exact ok_lenL ho ht (hxa x (by simp)) hR h
          · rename_i n e ht
            cases hc
            exact ok_lenC ho (.inl ⟨e, ht⟩) hR h
          · rename_i a ht
            split at hc
            · rename_i n e ha
              cases hc
              exact ok_lenC ho (.inr ⟨a, e, ht, ha⟩) hR h
            · cases hc
          · cases hc
        · cases hc
      case min => subst hc; exact ok_minmax (isMax := false) rfl ho hxa hR h
      case max => subst hc; exact ok_minmax (isMax := true) rfl ho hxa hR h
  | _ => simp [compOp] at hc

end
end Go.Bx

