/-
  AX, PART 12a: the interpreter's heap does not shrink.
-/
import Derived.Test.YtklmapfmilefhaaGreatAxCall
set_option linter.unusedSimpArgs false
set_option linter.unusedVariables false
set_option linter.unusedSectionVars false
namespace Go.Ax

theorem op1_size {ρ : Operand → Value} {σ : AHeap} {op : AOp} {v : Value} {σ' : AHeap} (h : op1 ρ σ op = some (v, σ')) : σ.size ≤ σ'.size := by
  cases op with
  | append e sz b s x =>
    simp only [op1, appendA] at h
    split at h
    · cases h
    · split at h
      · rw [Bool.cond_eq_ite] at h
        split at h
        · rw [Bool.cond_eq_ite] at h
          split at h
          · cases h; exact Nat.le_refl _
          · rw [Bool.cond_eq_ite] at h
            split at h
            · cases h; simp [AHeap.size_push]
            · cases h
        · cases h
      · rw [Bool.cond_eq_ite] at h
        split at h
        · cases h; exact Nat.le_refl _
        · split at h
          · cases h
          · rw [Bool.cond_eq_ite] at h
            split at h
            · rw [Bool.cond_eq_ite] at h
              split at h
              · cases h; simp [AHeap.size_put]
              · cases h; simp [AHeap.size_push, AHeap.size_kill]
            · cases h
      · cases h
  | copy sz d s =>
    simp only [op1, copyA] at h
    split at h
    · cases h
    · split at h
      · cases h; exact Nat.le_refl _
      · rw [Bool.cond_eq_ite] at h
        split at h
        · cases h; exact Nat.le_refl _
        · split at h
          · cases h
          · rw [Bool.cond_eq_ite] at h
            split at h
            · cases h; simp [AHeap.size_put]
            · cases h
      · cases h
  | store sz x v =>
    simp only [op1] at h
    split at h
    · split at h
      · rw [Bool.cond_eq_ite] at h
        split at h
        · cases h; simp [AHeap.size_put]
        · cases h
      · cases h
    · cases h
  | alloc e z => simp only [op1, Option.some.injEq, Prod.mk.injEq] at h; obtain ⟨_, rfl⟩ := h; simp [AHeap.size_push]
  | box e x =>
    simp only [op1] at h
    rw [Bool.cond_eq_ite] at h
    split at h
    · cases h; simp [AHeap.size_push]
    · cases h
  | buildSlice e z l p =>
    simp only [op1] at h
    split at h
    · cases h; simp [AHeap.size_push]
    · cases h
  | makeSlice e z b l c =>
    simp only [op1] at h
    split at h
    · rw [Bool.cond_eq_ite] at h
      split at h
      · cases h; simp [AHeap.size_push]
      · cases h
    · cases h
  | idxAddr len sz x i => cases len <;> simp only [op1] at h <;> (repeat' split at h) <;> first | (cases h; done) | (cases h; exact Nat.le_refl _)
  | lenO b x => cases b <;> simp only [op1] at h <;> (repeat' split at h) <;> first | (cases h; done) | (cases h; exact Nat.le_refl _)
  | tassert x t z ok =>
    simp only [op1] at h
    split at h
    · rename_i u y hx
      cases hb : Nat.beq u t <;> cases ok <;> simp only [hb, cond_true, cond_false, reduceCtorEq, Option.some.injEq, Prod.mk.injEq] at h <;> (obtain ⟨_, rfl⟩ := h; exact Nat.le_refl _)
    · cases ok <;> simp only [cond_true, cond_false, reduceCtorEq, Option.some.injEq, Prod.mk.injEq] at h <;> (obtain ⟨_, rfl⟩ := h; exact Nat.le_refl _)
    · cases h
  | _ =>
    simp only [op1] at h
    first
      | (cases h; done)
      | (cases h; exact Nat.le_refl _)
      | (repeat' split at h) <;> first
        | (cases h; done)
        | (cases h; exact Nat.le_refl _)
        | (rw [Bool.cond_eq_ite] at h; split at h <;> first | (cases h; done) | (cases h; exact Nat.le_refl _))

def SizeF (cf : CallF) : Prop := ∀ f args σ v σ', cf f args σ = some (v, σ') → σ.size ≤ σ'.size

theorem op2_size {cf : CallF} (hcf : SizeF cf) {ρ : Operand → Value} {σ : AHeap} {op : AOp} {v : Value} {σ' : AHeap} (h : op2 cf ρ σ op = some (v, σ')) : σ.size ≤ σ'.size := by
  by_cases hc : isCallA op = true
  · cases op <;> simp [isCallA] at hc
    · simp only [op2] at h
      split at h
      · exact hcf _ _ _ _ _ h
      · cases h
    · simp only [op2] at h
      split at h
      · split at h
        · split at h
          · exact hcf _ _ _ _ _ h
          · cases h
        · cases h
      · cases h
  · rw [op2_op1 (by simpa using hc)] at h
    exact op1_size h

theorem evalOps_size {cf : CallF} (hcf : SizeF cf) : ∀ (l : List AOper) (τ : Tmps) (σ : AHeap) (τ' : Tmps) (σ' : AHeap), evalOps cf l τ σ = some (τ', σ') → σ.size ≤ σ'.size
  | [], τ, σ, τ', σ', h => by simp only [evalOps, Option.some.injEq, Prod.mk.injEq] at h; obtain ⟨_, rfl⟩ := h; exact Nat.le_refl _
  | o :: l, τ, σ, τ', σ', h => by
    simp only [evalOps] at h
    split at h
    · split at h
      · rename_i v σ1 h2
        exact Nat.le_trans (op2_size hcf h2) (evalOps_size hcf l _ _ _ _ h)
      · cases h
    · exact evalOps_size hcf l _ _ _ _ h

theorem evalOpsD_size {cf : CallF} (hcf : SizeF cf) : ∀ (k : Nat) (l : List AOper) (τ : Tmps) (σ : AHeap) (hs : List (Nat × AHeap × AHeap)) (ids : List (Nat × List Nat)) (τ' : Tmps) (σ' : AHeap) (hs' : List (Nat × AHeap × AHeap)) (ids' : List (Nat × List Nat)), evalOpsD cf k l τ σ hs ids = some (τ', σ', hs', ids') → σ.size ≤ σ'.size
  | _, [], τ, σ, hs, ids, τ', σ', hs', ids', h => by simp only [evalOpsD, Option.some.injEq, Prod.mk.injEq] at h; obtain ⟨_, rfl, _⟩ := h; exact Nat.le_refl _
  | _, o :: l, τ, σ, hs, ids, τ', σ', hs', ids', h => by
    simp only [evalOpsD] at h
    split at h
    · split at h
      · rename_i v σ1 h2
        rw [Bool.cond_eq_ite] at h
        split at h
        · exact Nat.le_trans (op2_size hcf h2) (evalOpsD_size hcf _ l _ _ _ _ _ _ _ _ h)
        · cases h
      · cases h
    · exact evalOpsD_size hcf _ l _ _ _ _ _ _ _ _ h

theorem evalC_size {cf : CallF} (hcf : SizeF cf) (n : Nat) : ∀ (c : ACode) (τ : Tmps) (σ : AHeap) (e : AExit) (τ' : Tmps) (σ' : AHeap), evalC cf n c τ σ = some (e, τ', σ') → σ.size ≤ σ'.size := by
  intro c
  induction c with
  | skip | exit id | ret =>
    intro τ σ e τ' σ' h
    simp only [evalC, Option.some.injEq, Prod.mk.injEq] at h
    obtain ⟨_, _, rfl⟩ := h
    exact Nat.le_refl _
  | region ops =>
    intro τ σ e τ' σ' h
    simp only [evalC] at h
    split at h
    · rename_i h1
      simp only [Option.some.injEq, Prod.mk.injEq] at h
      obtain ⟨_, _, rfl⟩ := h
      exact evalOps_size hcf _ _ _ _ _ h1
    · cases h
  | dregion ops =>
    intro τ σ e τ' σ' h
    simp only [evalC] at h
    split at h
    · rename_i h1
      rw [Bool.cond_eq_ite] at h
      split at h
      · simp only [Option.some.injEq, Prod.mk.injEq] at h
        obtain ⟨_, _, rfl⟩ := h
        exact evalOpsD_size hcf _ _ _ _ _ _ _ _ _ _ h1
      · cases h
    · cases h
  | seq a b iha ihb =>
    intro τ σ e τ' σ' h
    simp only [evalC] at h
    split at h
    · rename_i h1
      exact Nat.le_trans (iha _ _ _ _ _ h1) (ihb _ _ _ _ _ h)
    · exact iha _ _ _ _ _ h
  | cond c a b iha ihb =>
    intro τ σ e τ' σ' h
    simp only [evalC] at h
    split at h
    · exact iha _ _ _ _ _ h
    · exact ihb _ _ _ _ _ h
    · cases h
  | block id c ih =>
    intro τ σ e τ' σ' h
    simp only [evalC] at h
    split at h
    · rename_i h1
      rw [Bool.cond_eq_ite] at h
      split at h <;> (simp only [Option.some.injEq, Prod.mk.injEq] at h; obtain ⟨_, _, rfl⟩ := h; exact ih _ _ _ _ _ h1)
    · exact ih _ _ _ _ _ h
  | loop c ih =>
    intro τ σ e τ' σ' h
    simp only [evalC] at h
    have key : ∀ (m : Nat) (τ : Tmps) (σ : AHeap), loopN m (evalC cf n c) τ σ = some (e, τ', σ') → σ.size ≤ σ'.size := by
      intro m
      induction m with
      | zero => intro τ σ h; simp [loopN] at h
      | succ m ihm =>
        intro τ σ h
        simp only [loopN] at h
        split at h
        · rename_i h1
          exact Nat.le_trans (ih _ _ _ _ _ h1) (ihm _ _ h)
        · exact ih _ _ _ _ _ h
    exact key n τ σ h
  | strRange pre x t7 t8 k post c ih =>
    intro τ σ e τ' σ' h
    simp only [evalC] at h
    split at h
    · rename_i τ1 σ1 h1
      split at h
      · rename_i s hs
        have key : ∀ (m pos : Nat) (τ : Tmps) (σ : AHeap) (e : AExit) (τ' : Tmps) (σ' : AHeap), strLoop s σ1.size t7 t8 (fun τ σ => match evalOps cf post τ σ with | some (τ', σ') => evalC cf n c τ' σ' | none => none) m pos τ σ = some (e, τ', σ') → σ.size ≤ σ'.size := by
          have body : ∀ (τ : Tmps) (σ : AHeap) (e : AExit) (τ' : Tmps) (σ' : AHeap), (match evalOps cf post τ σ with | some (τ', σ') => evalC cf n c τ' σ' | none => none) = some (e, τ', σ') → σ.size ≤ σ'.size := by
            intro τ σ e τ' σ' h
            split at h
            · rename_i h2
              exact Nat.le_trans (evalOps_size hcf _ _ _ _ _ h2) (ih _ _ _ _ _ h)
            · cases h
          intro m
          induction m with
          | zero => intro pos τ σ e τ' σ' h; simp [strLoop] at h
          | succ m ihm =>
            intro pos τ σ e τ' σ' h
            simp only [strLoop] at h
            split at h
            · rw [Bool.cond_eq_ite] at h
              split at h
              · rw [Bool.cond_eq_ite] at h
                split at h
                · split at h
                  · rename_i h2
                    exact Nat.le_trans (body _ _ _ _ _ h2) (ihm _ _ _ _ _ _ h)
                  · exact body _ _ _ _ _ h
                · split at h
                  · cases h
                  · exact body _ _ _ _ _ h
              · cases h
            · cases h
        have h2 := evalOps_size hcf _ _ _ _ _ h1
        have h3 : σ1.size ≤ σ1.skip.size := by rw [AHeap.size_skip]; omega
        generalize hq : strLoop s σ1.size t7 t8 _ n 0 _ _ = q at h
        unfold leave at h
        split at h
        · rename_i hq'
          rw [Bool.cond_eq_ite] at h
          split at h <;> (simp only [Option.some.injEq, Prod.mk.injEq] at h; obtain ⟨_, _, rfl⟩ := h; have := key _ _ _ _ _ _ _ hq; omega)
        · rw [← hq] at h
          have := key _ _ _ _ _ _ _ h
          omega
      · cases h
    · cases h

theorem stepF_size {cf : CallF} (hcf : SizeF cf) (A : AProg) (n : Nat) : SizeF (stepF cf A n) := by
  intro f args σ v σ' h
  unfold stepF at h
  split at h
  · cases h
  · split at h
    · rename_i h1
      split at h
      · simp only [Option.some.injEq, Prod.mk.injEq] at h
        obtain ⟨_, rfl⟩ := h
        exact evalC_size hcf n _ _ _ _ _ _ h1
      · cases h
    · rename_i h1
      split at h
      · simp only [Option.some.injEq, Prod.mk.injEq] at h
        obtain ⟨_, rfl⟩ := h
        exact evalC_size hcf n _ _ _ _ _ _ h1
      · cases h
    · cases h

theorem evalF_size (A : AProg) : ∀ n, SizeF (evalF A n)
  | 0 => fun f args σ v σ' h => by simp [evalF] at h
  | n + 1 => stepF_size (evalF_size A n) A n

end Go.Ax
