/-
  AX, PART 6: the operations without memory, the rest.
-/
import Derived.Test.YtklmapfmilefhaaGreatAxOp2
set_option linter.unusedSimpArgs false
set_option linter.unusedVariables false
set_option linter.unusedSectionVars false
namespace Go.Ax
variable {P : Program}
section
variable {φ : Phi} {σ : AHeap} {w : World} {ρ ρ' : Operand → Value} {o : Oper} {v : Value} {σ' : AHeap}

theorem run_eqGuard_plain (op : BinOp) (t : TypeId) (x y : Operand) (a b : Value) (w : World) (h1 : a = .nilIface → b ≠ .nilIface) (h2 : ∀ c d, a = .agg c → b ≠ .agg d) : (eqGuard op t x y a b).run P w = .ok () w := by
  have key : (match a, b with
      | .nilIface, .nilIface => if (x matches .const _) || (y matches .const _) then (pure () : Sem Unit) else do
          if ← Op.eqGuardIn Op.maxDepth t a b then unsupported (.noEntry "binop/eql: two nil values of an interface type with methods, neither of them the literal nil")
      | .agg _, .agg _ => do
        if !(← program).eqGuardType (← program).depth t then pure () else
        if ← Op.eqGuardIn Op.maxDepth t a b then unsupported (.noEntry "binop/eql: two nil values of an interface type with methods, in a part of a struct or an array")
      | _, _ => pure ()).run P w = .ok () w := by
    split
    · exact absurd rfl (h1 rfl)
    · exact absurd rfl (h2 _ _ rfl)
    · rfl
  cases op <;> first | exact key | rfl

theorem run_binOp_eql (t : TypeId) (x y : Value) (w : World) (hi : ∀ k a l b, x = .int k a → y ≠ .int l b) (hs : ∀ a b, x = .string a → y ≠ .string b) (hf : ∀ k a l b, x = .float k a → y ≠ .float l b)
    (hc : ∀ k a b l c d, x = .complex k a b → y ≠ .complex l c d) : (binOp .eql t x y).run P w = ((Op.equalIn 10000 t x y).run P w).andThen fun b w' => .ok (.bool b) w' := by
  unfold binOp
  split <;> first
    | (exact absurd rfl (hi _ _ _ _ rfl))
    | (exact absurd rfl (hs _ _ rfl))
    | (exact absurd rfl (hf _ _ _ _ rfl))
    | (exact absurd rfl (hc _ _ _ _ _ _ rfl))
    | (rename_i h; cases h; done)
    | simp_all [Op.equal, Op.maxDepth]
theorem run_binOp_neq (t : TypeId) (x y : Value) (w : World) (hi : ∀ k a l b, x = .int k a → y ≠ .int l b) (hs : ∀ a b, x = .string a → y ≠ .string b) (hf : ∀ k a l b, x = .float k a → y ≠ .float l b)
    (hc : ∀ k a b l c d, x = .complex k a b → y ≠ .complex l c d) : (binOp .neq t x y).run P w = ((Op.equalIn 10000 t x y).run P w).andThen fun b w' => .ok (.bool (!b)) w' := by
  unfold binOp
  split <;> first
    | (exact absurd rfl (hi _ _ _ _ rfl))
    | (exact absurd rfl (hs _ _ rfl))
    | (exact absurd rfl (hf _ _ _ _ rfl))
    | (exact absurd rfl (hc _ _ _ _ _ _ rfl))
    | (rename_i h; cases h; done)
    | simp_all [Op.equal, Op.maxDepth]

theorem flatB_spec {t : TypeId} {ks : List CK} (h : flatB P t = some ks) : P.eqGuardType P.depth t = false ∧ flatT P 20 t = some ks := by
  unfold flatB at h
  split at h
  · exact ⟨‹_›, h⟩
  · cases h

theorem flatEq_rel {φ : Phi} : ∀ {ks : List CK} {xs ys xs' ys' : List Value} {r : Bool}, flatEq ks xs ys = some r → VsRel φ xs xs' → VsRel φ ys ys' → flatEq ks xs' ys' = some r
  | [], [], [], _, _, _, h, .nil, .nil => h
  | [], _ :: _, _, _, _, _, h, _, _ => by simp [flatEq] at h
  | [], [], _ :: _, _, _, _, h, _, _ => by simp [flatEq] at h
  | k :: ks, [], _, _, _, _, h, _, _ => by cases k <;> simp [flatEq] at h
  | k :: ks, x :: xs, [], _, _, _, h, _, _ => by cases k <;> cases x <;> simp [flatEq] at h
  | k :: ks, x :: xs, y :: ys, _, _, r, h, .cons h1 h2, .cons h3 h4 => by
    have hr : ∀ q, flatEq ks xs ys = some q → flatEq ks _ _ = some q := fun q hq => flatEq_rel hq h2 h4
    cases k <;> cases x <;> cases y <;> simp only [flatEq, reduceCtorEq] at h <;> cases h1 <;> cases h3 <;> simp only [flatEq]
    · split at h
      · cases hf : flatEq ks xs ys with
        | none => simp [hf] at h
        | some q => simp [hf] at h; simp [*, hr q hf]
      · cases h
    · cases hf : flatEq ks xs ys with
      | none => simp [hf] at h
      | some q => simp [hf] at h; simp [hr q hf, h]
    · cases hf : flatEq ks xs ys with
      | none => simp [hf] at h
      | some q => simp [hf] at h; simp [hr q hf, h]

theorem other_sound {t : TypeId} {a b a' b' : Value} {r : Bool} (h : otherEq (eqKind P t) a b = some r) (ha : VRel φ a a') (hb : VRel φ b b') (op : BinOp) (x y : Operand) :
    (eqGuard op t x y a' b').run P w = .ok () w ∧ (binOp .eql t a' b').run P w = .ok (.bool r) w ∧ (binOp .neq t a' b').run P w = .ok (.bool (!r)) w := by
  have fin : (a' = .nilIface → b' ≠ .nilIface) → (∀ c d, a' = .agg c → b' ≠ .agg d) → (∀ k a l b, a' = .int k a → b' ≠ .int l b) → (∀ c d, a' = .string c → b' ≠ .string d) → (∀ k a l b, a' = .float k a → b' ≠ .float l b) →
      (∀ k a b l c d, a' = .complex k a b → b' ≠ .complex l c d) → (∀ D, (Op.equalIn (D + 1) t a' b').run P w = .ok r w) →
      (eqGuard op t x y a' b').run P w = .ok () w ∧ (binOp .eql t a' b').run P w = .ok (.bool r) w ∧ (binOp .neq t a' b').run P w = .ok (.bool (!r)) w := by
    intro h1 h2 h3 h4 h5 h6 h8
    have h7 : (Op.equalIn 10000 t a' b').run P w = .ok r w := h8 9999
    exact ⟨run_eqGuard_plain _ _ _ _ _ _ _ h1 h2, by rw [run_binOp_eql _ _ _ _ h3 h4 h5 h6, h7]; rfl, by rw [run_binOp_neq _ _ _ _ h3 h4 h5 h6, h7]; rfl⟩
  unfold eqKind at h
  split at h
  all_goals rename_i hu
  · unfold otherEq at h; split at h <;> first | (cases h; done) | (rename_i e; cases e; done) | (cases h; cases ha; cases hb; refine fin (by simp) (by simp) (by simp) (by simp) (by simp) (by simp) ?_; intro D; simp [Op.equalIn, run_underlying hu])
  · unfold otherEq at h; split at h <;> first | (cases h; done) | (rename_i e; cases e; done) | (cases h; cases ha; cases hb; refine fin (by simp) (by simp) (by simp) (by simp) (by simp) (by simp) ?_; intro D; simp [Op.equalIn, run_underlying hu])
  · unfold otherEq at h; split at h <;> first | (cases h; done) | (rename_i e; cases e; done) | (cases h; cases ha; cases hb; refine fin (by simp) (by simp) (by simp) (by simp) (by simp) (by simp) ?_; intro D; simp [Op.equalIn, run_underlying hu])
  · unfold otherEq at h; split at h <;> first | (cases h; done) | (rename_i e; cases e; done) | (cases h; cases ha; cases hb; refine fin (by simp) (by simp) (by simp) (by simp) (by simp) (by simp) ?_; intro D; simp [Op.equalIn, run_underlying hu])
  · unfold otherEq at h; split at h <;> first | (cases h; done) | (rename_i e; cases e; done) | (cases h; cases ha; cases hb; refine fin (by simp) (by simp) (by simp) (by simp) (by simp) (by simp) ?_; intro D; simp [Op.equalIn, run_underlying hu])
  · split at h
    · rename_i ks hf
      obtain ⟨hg, hft⟩ := flatB_spec hf
      unfold otherEq at h
      split at h <;> first | (cases h; done) | (rename_i e; cases e; done) | skip
      rename_i xs ys e
      cases e
      cases ha; cases hb
      rename_i xs' h1 hx ys' h2 hy
      have hr := flatEq_rel h hx hy
      have hr2 := equalIn_flat 20 t ks hft 10000 (by omega) true (funext fun w => by simp [isAgg, run_underlying hu]) _ _ r hr w
      simp only [ofCells, if_true] at hr2
      refine ⟨run_eqGuard_agg w op t x y xs' ys' hg, ?_, ?_⟩
      · rw [run_binOp_eql _ _ _ _ (by simp) (by simp) (by simp) (by simp)]
        simpa using congrArg (fun z => z.andThen fun b w' => Result.ok (Value.bool b) w') hr2
      · rw [run_binOp_neq _ _ _ _ (by simp) (by simp) (by simp) (by simp)]
        simpa using congrArg (fun z => z.andThen fun b w' => Result.ok (Value.bool (!b)) w') hr2
    · simp [otherEq] at h
  · split at h
    · rename_i ks hf
      obtain ⟨hg, hft⟩ := flatB_spec hf
      unfold otherEq at h
      split at h <;> first | (cases h; done) | (rename_i e; cases e; done) | skip
      rename_i xs ys e
      cases e
      cases ha; cases hb
      rename_i xs' h1 hx ys' h2 hy
      have hr := flatEq_rel h hx hy
      have hr2 := equalIn_flat 20 t ks hft 10000 (by omega) true (funext fun w => by simp [isAgg, run_underlying hu]) _ _ r hr w
      simp only [ofCells, if_true] at hr2
      refine ⟨run_eqGuard_agg w op t x y xs' ys' hg, ?_, ?_⟩
      · rw [run_binOp_eql _ _ _ _ (by simp) (by simp) (by simp) (by simp)]
        simpa using congrArg (fun z => z.andThen fun b w' => Result.ok (Value.bool b) w') hr2
      · rw [run_binOp_neq _ _ _ _ (by simp) (by simp) (by simp) (by simp)]
        simpa using congrArg (fun z => z.andThen fun b w' => Result.ok (Value.bool (!b)) w') hr2
    · simp [otherEq] at h
  · simp [otherEq] at h

theorem ok_bin {op : BinOp} {t u : TypeId} {x y : Operand} (ho : o.op = .binOp op t x y u) (hx : VRel φ (ρ x) (ρ' x)) (hy : VRel φ (ρ y) (ρ' y)) (hR : R P φ σ w) (h : op1 ρ σ (.bin op (eqKind P t) x y) = some (v, σ')) :
    OpOk P φ σ w ρ' o v σ' := by
  simp only [op1] at h
  cases hb : binA op (eqKind P t) (ρ x) (ρ y) with
  | none => simp [hb] at h
  | some u =>
    simp only [hb, Option.some.injEq, Prod.mk.injEq] at h
    obtain ⟨rfl, rfl⟩ := h
    have fin : ∀ (v' : Value), VRel φ u v' → (eqGuard op t x y (ρ' x) (ρ' y)).run P w = .ok () w → (binOp op t (ρ' x) (ρ' y)).run P w = .ok v' w → OpOk P φ σ w ρ' o u σ := by
      intro v' hv hg hrun
      exact .pure hR hv (by simp [execOp, ho, hg, hrun])
    generalize ρ x = a at hb hx
    generalize ρ y = b at hb hy
    generalize ρ' x = a' at hx fin
    generalize ρ' y = b' at hy fin
    unfold binA at hb
    split at hb
    · cases hx; cases hy
      have : VRel φ u u := by unfold shiftBin at hb; split at hb <;> simp at hb; subst hb; exact .int _ _
      exact fin u this (run_eqGuard_plain _ _ _ _ _ _ _ (by simp) (by simp)) (run_shift _ _ _ _ _ _ _ _ hb)
    · cases hx; cases hy
      have : VRel φ u u := by unfold shiftBin at hb; split at hb <;> simp at hb; subst hb; exact .int _ _
      exact fin u this (run_eqGuard_plain _ _ _ _ _ _ _ (by simp) (by simp)) (run_shift _ _ _ _ _ _ _ _ hb)
    · split at hb
      · rename_i hk
        subst hk
        cases hx; cases hy
        have : VRel φ u u := by
          unfold intBin at hb
          split at hb <;> first | (simp at hb; subst hb; constructor) | (split at hb <;> simp at hb; subst hb; constructor) | cases hb
        exact fin u this (run_eqGuard_plain _ _ _ _ _ _ _ (by simp) (by simp)) (run_intBin _ _ _ _ _ _ _ hb)
      · cases hb
    · cases hx; cases hy
      have : VRel φ u u := by
        unfold strBin at hb
        split at hb <;> first | (simp at hb; subst hb; constructor) | (rw [Bool.cond_eq_ite] at hb; split at hb <;> simp at hb; subst hb; constructor) | cases hb | skip
      exact fin u this (run_eqGuard_plain _ _ _ _ _ _ _ (by simp) (by simp)) (run_strBin _ _ _ _ _ _ hb)
    · cases hr : otherEq (eqKind P t) a b with
      | none => simp [hr] at hb
      | some r =>
        simp [hr] at hb; subst hb
        obtain ⟨h1, h2, h3⟩ := other_sound (w := w) hr hx hy .eql x y
        exact fin _ (.bool _) h1 h2
    · cases hr : otherEq (eqKind P t) a b with
      | none => simp [hr] at hb
      | some r =>
        simp [hr] at hb; subst hb
        obtain ⟨h1, h2, h3⟩ := other_sound (w := w) hr hx hy .neq x y
        exact fin _ (.bool _) h1 h3
    · cases hb

end
end Go.Ax
