/-
  AX, PART 8: slicing, lengths, making, building.
-/
import Derived.Test.YtklmapfmilefhaaGreatAxOp4
set_option linter.unusedSimpArgs false
set_option linter.unusedVariables false
set_option linter.unusedSectionVars false
namespace Go.Ax
variable {P : Program}
section
variable {φ : Phi} {σ : AHeap} {w : World} {ρ ρ' : Operand → Value} {o : Oper} {v : Value} {σ' : AHeap}

theorem run_bound {x x' : Value} {y n : Nat} (h : bound x y = some n) (hx : VRel φ x x') {z : Nat} (hz : y ≤ z) (code : BoundsCode) (w : World) : (Instr.sliceBound x' z code).run P w = .ok n w ∧ n ≤ y := by
  unfold bound at h
  split at h
  · cases hx
    split at h
    · rename_i hlt
      cases h
      have : 0 ≤ (_ : Int) ∧ _ := ⟨hlt.1, Int.le_trans hlt.2 (Int.ofNat_le.2 hz)⟩
      refine ⟨?_, by omega⟩
      simp only [Instr.sliceBound, asIntOf, Sem.run_bind, Sem.run_pure, Result.andThen, Sem.run_ite]
      rw [if_pos this]
    · cases h
  · cases h

/-- The bounds of a slice expression; y is what the high bound may reach at the most in the interpreter, z in the model. -/
theorem run_bounds {lo hi : Option Operand} {len y z h l : Nat} (isS : Bool) (hh : boundHi (hi.map ρ) y = some h) (hl : boundLo (lo.map ρ) h = some l) (hlo : ∀ x, lo = some x → VRel φ (ρ x) (ρ' x)) (hhi : ∀ x, hi = some x → VRel φ (ρ x) (ρ' x))
    (hyz : y ≤ z) (hlen : len = y) (w : World) : (Instr.sliceBounds isS len z (lo.map ρ') (hi.map ρ') none).run P w = .ok (l, h, z) w ∧ l ≤ h ∧ h ≤ y := by
  have hL : l ≤ h ∧ ∀ w, (match lo.map ρ' with
      | some v => (do let l ← Instr.sliceBound v h (if (none : Option Value).isSome then .slice3C else .sliceB); pure (l, h, z) : Sem (Nat × Nat × Nat))
      | none => (do let l ← pure 0; pure (l, h, z))).run P w = .ok (l, h, z) w := by
    cases lo with
    | none => simp [boundLo] at hl; subst hl; exact ⟨Nat.zero_le _, fun _ => rfl⟩
    | some x =>
      simp only [Option.map_some, boundLo] at hl
      exact ⟨(run_bound (P := P) hl (hlo x rfl) (Nat.le_refl _) .sliceB w).2, fun w => by simp [(run_bound (P := P) hl (hlo x rfl) (Nat.le_refl _) .sliceB w).1]⟩
  cases hi with
  | none =>
    simp [boundHi] at hh
    subst hh
    subst hlen
    refine ⟨?_, hL.1, Nat.le_refl _⟩
    simp only [Instr.sliceBounds, Option.map_none, Sem.run_bind, Sem.run_pure, Result.andThen_ok]
    exact hL.2 w
  | some x =>
    simp only [Option.map_some, boundHi] at hh
    have := run_bound (P := P) hh (hhi x rfl) hyz (if isS then .sliceAcap else .sliceAlen) w
    refine ⟨?_, hL.1, this.2⟩
    simp only [Instr.sliceBounds, Option.map_some, Sem.run_bind, Sem.run_pure, Result.andThen_ok, this.1]
    exact hL.2 w

theorem ok_slcS {t : TypeId} {x : Operand} {lo hi : Option Operand} (ho : o.op = .slice t x lo hi none) (ht : P.underlying t = some .string) (hx : VRel φ (ρ x) (ρ' x)) (hlo : ∀ x, lo = some x → VRel φ (ρ x) (ρ' x)) (hhi : ∀ x, hi = some x → VRel φ (ρ x) (ρ' x))
    (hR : R P φ σ w) (h : op1 ρ σ (.slcS x lo hi) = some (v, σ')) : OpOk P φ σ w ρ' o v σ' := by
  cases hp : ρ x with
  | string s =>
    simp only [op1, hp] at h
    cases hh : boundHi (hi.map ρ) s.size with
    | none => simp [hh] at h
    | some n =>
      simp only [hh] at h
      cases hl : boundLo (lo.map ρ) n with
      | none => simp [hl] at h
      | some l =>
        simp only [hl, Option.some.injEq, Prod.mk.injEq] at h
        obtain ⟨rfl, rfl⟩ := h
        rw [hp] at hx
        generalize hq : ρ' x = a' at hx
        cases hx
        obtain ⟨hb, _, _⟩ := run_bounds (P := P) false hh hl hlo hhi (Nat.le_refl _) rfl w
        exact .pure hR (.string _) (by simp [execOp, ho, Instr.sliceAt, run_underlying ht, Instr.slice, hq, hb])
  | _ => simp [op1, hp] at h

theorem ok_slc {t e : TypeId} {x : Operand} {s : Nat} {lo hi : Option Operand} (ho : o.op = .slice t x lo hi none) (ht : P.underlying t = some (.slice e)) (hs : sizeT P e = some s) (hx : VRel φ (ρ x) (ρ' x))
    (hlo : ∀ x, lo = some x → VRel φ (ρ x) (ρ' x)) (hhi : ∀ x, hi = some x → VRel φ (ρ x) (ρ' x)) (hR : R P φ σ w) (h : op1 ρ σ (.slc s x lo hi) = some (v, σ')) : OpOk P φ σ w ρ' o v σ' := by
  cases hp : ρ x with
  | slice a len fl =>
    rw [hp] at hx
    generalize hq : ρ' x = a' at hx
    cases a with
    | none =>
      simp only [op1, hp] at h
      cases hh : boundHi (hi.map ρ) 0 with
      | none => simp [hh] at h
      | some n =>
        simp only [hh] at h
        cases hl : boundLo (lo.map ρ) n with
        | none => simp [hl] at h
        | some l =>
          simp only [hl, Option.some.injEq, Prod.mk.injEq] at h
          obtain ⟨rfl, rfl⟩ := h
          cases hx
          obtain ⟨hb, h1, h2⟩ := run_bounds (P := P) true hh hl hlo hhi (Nat.le_refl 0) rfl w
          obtain rfl : n = 0 := by omega
          obtain rfl : l = 0 := by omega
          exact .pure hR .slcN (by simp [execOp, ho, Instr.sliceAt, run_underlying ht, Instr.slice, hq, hb, run_sizeT hs])
    | some a =>
      simp only [op1, hp] at h
      cases hh : boundHi (hi.map ρ) len with
      | none => simp [hh] at h
      | some n =>
        simp only [hh] at h
        cases hl : boundLo (lo.map ρ) n with
        | none => simp [hl] at h
        | some l =>
          simp only [hl, Option.some.injEq, Prod.mk.injEq] at h
          obtain ⟨rfl, rfl⟩ := h
          cases hx with
          | slc h0 hc hf =>
            rename_i a' c
            obtain ⟨hb, h1, h2⟩ := run_bounds (P := P) true hh hl hlo hhi hc rfl w
            refine .pure hR (v' := .slice (if c = l then some a' else some (a'.add (l * s))) (n - l) (c - l)) ?_ ?_
            · have hsp : (if c = l then some a' else some (a'.add (l * s))) = some (if c = l then a' else a'.add (l * s)) := by split <;> rfl
              rw [hsp]
              refine .slc ?_ (by omega) ?_
              · by_cases he : n - l = 0
                · exact .inl he
                · right
                  rw [if_neg (by omega)]
                  exact (h0.resolve_left (by omega)).add _
              · intro hfl
                by_cases hl0 : l = 0
                · subst hl0
                  simp only [Nat.beq_refl, cond_true] at hfl
                  have := hf hfl
                  have e : (if c = 0 then a' else a'.add (0 * s)) = a' := by simp [Addr.add]
                  rw [e]
                  refine ⟨by simpa using this.1, ?_⟩
                  simpa using this.2
                · rw [beqF hl0] at hfl
                  simp at hfl
            · simp [execOp, ho, Instr.sliceAt, run_underlying ht, Instr.slice, hq, hb, run_sizeT hs]
  | _ => simp [op1, hp] at h

theorem ok_slcA {t e : TypeId} {m : Nat} {x : Operand} {s : Nat} {lo hi : Option Operand} (ho : o.op = .slice t x lo hi none) (ht : P.underlying t = some (.array m e)) (hs : sizeT P e = some s) (hx : VRel φ (ρ x) (ρ' x))
    (hlo : ∀ x, lo = some x → VRel φ (ρ x) (ρ' x)) (hhi : ∀ x, hi = some x → VRel φ (ρ x) (ρ' x)) (hR : R P φ σ w) (h : op1 ρ σ (.slcA m s x lo hi) = some (v, σ')) : OpOk P φ σ w ρ' o v σ' := by
  cases hp : ρ x with
  | pointer a =>
    cases a with
    | none => simp [op1, hp] at h
    | some a =>
      rw [hp] at hx
      generalize hq : ρ' x = a' at hx
      simp only [op1, hp] at h
      cases hh : boundHi (hi.map ρ) m with
      | none => simp [hh] at h
      | some n =>
        simp only [hh] at h
        cases hl : boundLo (lo.map ρ) n with
        | none => simp [hl] at h
        | some l =>
          simp only [hl, Option.some.injEq, Prod.mk.injEq] at h
          obtain ⟨rfl, rfl⟩ := h
          cases hx with
          | ptr ha =>
            rename_i a'
            obtain ⟨hb, h1, h2⟩ := run_bounds (P := P) false hh hl hlo hhi (Nat.le_refl _) rfl w
            refine .pure hR (v' := .slice (some (if m = l then a' else a'.add (l * s))) (n - l) (m - l)) ?_ ?_
            · refine .slc ?_ (by omega) (by simp)
              by_cases he : n - l = 0
              · exact .inl he
              · right
                rw [if_neg (by omega)]
                exact ha.add _
            · simp [execOp, ho, Instr.sliceAt, run_underlying ht, hq, hb, run_sizeT hs, Instr.sureAddr]
  | _ => simp [op1, hp] at h

theorem ok_lenS {t : TypeId} {x : Operand} (ho : o.op = .call { callee := .builtin .len, args := #[x], argTypes := #[t] }) (ht : P.underlying t = some .string) (hx : VRel φ (ρ x) (ρ' x)) (hR : R P φ σ w) (h : op1 ρ σ (.lenO true x) = some (v, σ')) :
    OpOk P φ σ w ρ' o v σ' := by
  cases hp : ρ x with
  | string s =>
    simp only [op1, hp, Option.some.injEq, Prod.mk.injEq] at h
    obtain ⟨rfl, rfl⟩ := h
    rw [hp] at hx
    generalize hq : ρ' x = a' at hx
    cases hx
    exact .pure hR (.int _ _) (by simp [execOp, ho, resolve, invoke, builtin, Builtin.len_, run_underlying ht, hq, goInt])
  | _ => simp [op1, hp] at h

theorem ok_lenL {t e : TypeId} {x : Operand} (ho : o.op = .call { callee := .builtin .len, args := #[x], argTypes := #[t] }) (ht : P.underlying t = some (.slice e)) (hx : VRel φ (ρ x) (ρ' x)) (hR : R P φ σ w) (h : op1 ρ σ (.lenO false x) = some (v, σ')) :
    OpOk P φ σ w ρ' o v σ' := by
  cases hp : ρ x with
  | slice a n c =>
    simp only [op1, hp, Option.some.injEq, Prod.mk.injEq] at h
    obtain ⟨rfl, rfl⟩ := h
    rw [hp] at hx
    generalize hq : ρ' x = a' at hx
    cases hx <;> exact .pure hR (.int _ _) (by simp [execOp, ho, resolve, invoke, builtin, Builtin.len_, run_underlying ht, hq, goInt])
  | _ => simp [op1, hp] at h

theorem ok_lenC {t : TypeId} {x : Operand} {n : Nat} (ho : o.op = .call { callee := .builtin .len, args := #[x], argTypes := #[t] }) (ht : (∃ e, P.underlying t = some (.array n e)) ∨ ∃ a e, P.underlying t = some (.pointer a) ∧ P.underlying a = some (.array n e)) (hR : R P φ σ w)
    (h : op1 ρ σ (.lenC n) = some (v, σ')) : OpOk P φ σ w ρ' o v σ' := by
  simp only [op1, Option.some.injEq, Prod.mk.injEq] at h
  obtain ⟨rfl, rfl⟩ := h
  rcases ht with ⟨e, ht⟩ | ⟨a, e, ht, ha⟩
  · exact .pure hR (.int _ _) (by simp [execOp, ho, resolve, invoke, builtin, Builtin.len_, run_underlying ht, goInt])
  · exact .pure hR (.int _ _) (by simp [execOp, ho, resolve, invoke, builtin, Builtin.len_, run_underlying ht, run_underlying ha, goInt])

theorem minmax_sound : ∀ (isMax : Bool) (l l' : List Value) (x x' u : Value), minmaxA isMax x l = some u → VsRel φ l l' → VRel φ x x' → ∀ w, (l'.foldlM (if isMax then Builtin.max2 else Builtin.min2) x').run P w = .ok x' w ∧ l = [] ∧ u = x ∨ (∃ k n, u = .int k n) ∧ (l'.foldlM (if isMax then Builtin.max2 else Builtin.min2) x').run P w = .ok u w
  | isMax, [], _, x, x', u, h, .nil, hx, w => by
    simp only [minmaxA] at h
    cases x <;> simp at h <;> subst h <;> exact .inl ⟨rfl, rfl, rfl⟩
  | isMax, y :: l, _, x, x', u, h, .cons hy hl, hx, w => by
    right
    unfold minmaxA at h
    split at h
    · contradiction
    · rename_i k a l2 b rest e
      cases e
      cases hx; cases hy
      split at h
      · rename_i hk
        subst hk
        have ih := minmax_sound isMax l _ _ _ u h hl (VRel.int (φ := φ) k (if isMax then (if a < b then b else a) else (if b < a then b else a))) w
        have hstep : ((if isMax then Builtin.max2 else Builtin.min2) (.int k a) (.int k b)).run P w = .ok (.int k (if isMax then (if a < b then b else a) else (if b < a then b else a))) w := by
          cases isMax <;> simp [Builtin.max2, Builtin.min2]
        rcases ih with ⟨h1, h2, h3⟩ | ⟨h1, h2⟩
        · subst h2
          refine ⟨⟨_, _, h3⟩, ?_⟩
          rw [List.foldlM_cons, Sem.run_bind, hstep]
          simp only [Result.andThen_ok]
          rw [h1, h3]
        · refine ⟨h1, ?_⟩
          rw [List.foldlM_cons, Sem.run_bind, hstep]
          simpa using h2
      · cases h
    · cases h

end
end Go.Ax
