/-
  AX, PART 14a: regions that draw their order: the run in text order, and what is static.
-/
import Derived.Test.YtklmapfmilefhaaGreatAxRegion
set_option linter.unusedSimpArgs false
set_option linter.unusedVariables false
set_option linter.unusedSectionVars false
namespace Go.Ax
variable {P : Program}

/-! ### The Boolean equality -/

theorem addrEq_eq {a b : Addr} (h : addrEq a b = true) : a = b := by
  obtain ⟨b1, o1, s1⟩ := a
  obtain ⟨b2, o2, s2⟩ := b
  simp only [addrEq, Bool.and_eq_true] at h
  obtain ⟨⟨h1, h2⟩, h3⟩ := h
  have h1 := Nat.eq_of_beq_eq_true h1
  have h2 := Nat.eq_of_beq_eq_true h2
  subst h1; subst h2
  cases s1 <;> cases s2 <;> simp at h3
  · rfl
  · rw [h3]

theorem valEq0_eq {a b : Value} (h : valEq0 a b = true) : a = b := by
  unfold valEq0 at h
  split at h
  · simpa using h
  · simp at h; rw [h.1, h.2]
  · rename_i x y
    have : x.data = y.data := Array.ext' (by simpa using h)
    cases x; cases y; simp at this; rw [this]
  · rfl
  · rw [addrEq_eq h]
  · simp only [Bool.and_eq_true] at h; rw [Nat.eq_of_beq_eq_true h.1, Nat.eq_of_beq_eq_true h.2]
  · simp only [Bool.and_eq_true] at h; rw [addrEq_eq h.1.1, Nat.eq_of_beq_eq_true h.1.2, Nat.eq_of_beq_eq_true h.2]
  · rfl
  · rfl
  · simp only [Bool.and_eq_true, Array.isEmpty_iff] at h
    obtain ⟨⟨h1, rfl, rfl⟩, rfl, rfl⟩ := h
    rw [Nat.eq_of_beq_eq_true h1]
  · cases h

theorem valEq_eq {a b : Value} (h : valEq a b = true) : a = b := by
  unfold valEq at h
  split at h
  · simp only [Bool.and_eq_true] at h
    rw [Nat.eq_of_beq_eq_true h.1, valEq0_eq h.2]
  · exact valEq0_eq h

theorem valsEq_eq : ∀ {a b : List Value}, valsEq a b = true → a = b
  | [], [], _ => rfl
  | [], _ :: _, h => by simp [valsEq] at h
  | _ :: _, [], h => by simp [valsEq] at h
  | x :: a, y :: b, h => by
    simp only [valsEq, Bool.and_eq_true] at h
    rw [valEq_eq h.1, valsEq_eq h.2]

theorem objEq_eq {a b : Option AObj} (h : objEq a b = true) : a = b := by
  unfold objEq at h
  split at h
  · rename_i x y
    simp only [Bool.and_eq_true] at h
    obtain ⟨⟨h1, h2⟩, h3⟩ := h
    obtain ⟨c1, e1, w1⟩ := x
    obtain ⟨c2, e2, w2⟩ := y
    simp at h3
    rw [show c1 = c2 from valsEq_eq h1, show e1 = e2 from Nat.eq_of_beq_eq_true h2, h3]
  · cases h

theorem drawnOk_spec {σ : AHeap} {hs : List (Nat × AHeap × AHeap)} {ids : List (Nat × List Nat)} (h : drawnOk σ hs ids = true) : ∀ i ∈ ids, i.1 < σ.size ∧ ∀ g ∈ hs, g.1 ∈ i.2 → g.2.2.get i.1 = g.2.1.get i.1 := by
  intro i hi
  have := List.all_eq_true.1 h i hi
  simp only [Bool.and_eq_true, List.all_eq_true] at this
  refine ⟨by simpa [Nat.blt_eq] using this.1, fun g hg hgi => objEq_eq ?_⟩
  have h1 := this.2 g hg
  simpa [hgi] using h1

/-! ### The run in text order -/

structure Trace (cf : CallF) (cs : List AOper) (k : Nat) (st : Nat → Tmps × AHeap) (hs : List (Nat × AHeap × AHeap)) (ids : List (Nat × List Nat)) : Prop where
  step : ∀ i c, cs[i]? = some c →
    (wantedA (st i).1 c.guard = true ∧ ∃ v, op2 cf (opd (st i).1) (st i).2 c.op = some (v, (st (i + 1)).2) ∧ (st (i + 1)).1 = putA (st i).1 c.dst v ∧
      (isWriter c.op = true → (k + i, (st i).2, (st (i + 1)).2) ∈ hs) ∧ (c.chk ≠ [] → (loadsAt (opd (st i).1) c.op, c.chk) ∈ ids ∧ chkFine c.chk (st i).2 (loadsAt (opd (st i).1) c.op) = true)) ∨
    (wantedA (st i).1 c.guard = false ∧ (st (i + 1)).2 = (st i).2 ∧ (st (i + 1)).1 = putA (st i).1 c.dst undef)

theorem trace_of {cf : CallF} : ∀ (k : Nat) (cs : List AOper) (τ : Tmps) (σ : AHeap) (hs : List (Nat × AHeap × AHeap)) (ids : List (Nat × List Nat)) (τ' : Tmps) (σ' : AHeap) (hs' : List (Nat × AHeap × AHeap)) (ids' : List (Nat × List Nat)), evalOpsD cf k cs τ σ hs ids = some (τ', σ', hs', ids') →
    ∃ st, st 0 = (τ, σ) ∧ st cs.length = (τ', σ') ∧ Trace cf cs k st hs' ids' ∧ (∀ g ∈ hs, g ∈ hs') ∧ (∀ i ∈ ids, i ∈ ids')
  | k, [], τ, σ, hs, ids, τ', σ', hs', ids', h => by
    simp only [evalOpsD, Option.some.injEq, Prod.mk.injEq] at h
    obtain ⟨rfl, rfl, rfl, rfl⟩ := h
    exact ⟨fun _ => (τ, σ), rfl, rfl, ⟨fun i c hc => by simp at hc⟩, fun _ h => h, fun _ h => h⟩
  | k, o :: cs, τ, σ, hs, ids, τ', σ', hs', ids', h => by
    simp only [evalOpsD] at h
    cases hw : wantedA τ o.guard with
    | true =>
      simp only [hw] at h
      cases h2 : op2 cf (opd τ) σ o.op with
      | none => simp [h2] at h
      | some p =>
        obtain ⟨v, σ1⟩ := p
        simp only [h2] at h
        rw [Bool.cond_eq_ite] at h
        split at h
        · rename_i hfine
          obtain ⟨st, h0, hn, htr, hh, hi⟩ := trace_of (k + 1) cs _ _ _ _ _ _ _ _ h
          refine ⟨fun i => if i = 0 then (τ, σ) else st (i - 1), rfl, by simpa using hn, ⟨fun i c hc => ?_⟩, fun g hg => hh g ?_, fun i hii => hi i ?_⟩
          · cases i with
            | zero =>
              simp at hc; subst hc
              refine .inl ⟨hw, v, ?_, ?_, ?_, ?_⟩
              · simp [h0, h2]
              · simp [h0]
              · intro hwr; simp only [Nat.zero_add, Nat.add_zero, Nat.one_ne_zero, if_false, if_true, Nat.sub_self, h0]
                exact hh _ (by simp [hwr])
              · intro hck
                refine ⟨hi _ ?_, by simpa using hfine⟩
                have : o.chk.isEmpty = false := by cases ho : o.chk with | nil => exact absurd ho hck | cons _ _ => rfl
                simp [this]
            | succ i =>
              have := htr.step i c (by simpa using hc)
              simpa [Nat.add_assoc, Nat.add_comm 1 i] using this
          · cases isWriter o.op <;> simp [hg]
          · cases o.chk.isEmpty <;> simp [hii]
        · cases h
    | false =>
      simp only [hw] at h
      obtain ⟨st, h0, hn, htr, hh, hi⟩ := trace_of (k + 1) cs _ _ _ _ _ _ _ _ h
      refine ⟨fun i => if i = 0 then (τ, σ) else st (i - 1), rfl, by simpa using hn, ⟨fun i c hc => ?_⟩, hh, hi⟩
      cases i with
      | zero =>
        simp at hc; subst hc
        exact .inr ⟨hw, by simp [h0], by simp [h0]⟩
      | succ i =>
        have := htr.step i c (by simpa using hc)
        simpa [Nat.add_assoc, Nat.add_comm 1 i] using this

/-! ### Operations that neither call nor write -/

def plainOp (op : AOp) : Bool := !isWriter op

/-- An operation that is no writer does the same in every heap of the same size that reads alike where it loads. -/
theorem op_indep {ρ : Operand → Value} {σ τ : AHeap} {op : AOp} {v : Value} {σ' : AHeap} (hw : isWriter op = false) (h : op1 ρ σ op = some (v, σ')) (hs : τ.size = σ.size)
    (hl : isLoad op = true → (τ.get (loadsAt ρ op)).map (·.cells) = (σ.get (loadsAt ρ op)).map (·.cells)) :
    (σ' = σ ∧ op1 ρ τ op = some (v, τ)) ∨ (∃ ob, σ' = σ.push ob ∧ op1 ρ τ op = some (v, τ.push ob)) := by
  cases op with
  | store => simp [isWriter] at hw
  | append => simp [isWriter] at hw
  | copy => simp [isWriter] at hw
  | call => simp [isWriter] at hw
  | invoke => simp [isWriter] at hw
  | load sz x =>
    left
    have hl := hl rfl
    simp only [loadsAt] at hl
    simp only [op1] at h ⊢
    split at h
    · rename_i a ha
      simp only [ha] at hl ⊢
      have hrd : τ.read sz a = σ.read sz a := by
        unfold AHeap.read AHeap.cell AHeap.cells
        cases h1 : τ.get a.block <;> cases h2 : σ.get a.block <;> simp [h1, h2] at hl
        · rfl
        · rename_i x y
          simp only [hl]
      rw [hrd]
      split at h
      · rename_i u hu
        cases h
        exact ⟨rfl, by simp⟩
      · cases h
    · cases h
  | alloc e zc =>
    simp only [op1, Option.some.injEq, Prod.mk.injEq] at h ⊢
    obtain ⟨rfl, rfl⟩ := h
    exact .inr ⟨_, rfl, by rw [hs], rfl⟩
  | box e x =>
    simp only [op1] at h ⊢
    rw [Bool.cond_eq_ite] at h ⊢
    split at h
    · rename_i hb
      cases h
      exact .inr ⟨_, rfl, by rw [if_pos hb, hs]⟩
    · cases h
  | buildSlice e zc len parts =>
    simp only [op1] at h ⊢
    split at h
    · rename_i cs hc
      cases h
      exact .inr ⟨_, rfl, by simp only [hs]⟩
    · cases h
  | makeSlice e zc b l c =>
    simp only [op1] at h ⊢
    split at h
    · rw [Bool.cond_eq_ite] at h ⊢
      split at h
      · rename_i hb
        cases h
        exact .inr ⟨_, rfl, by rw [if_pos hb, hs]⟩
      · cases h
    · cases h
  | idxAddr len sz x i =>
    left
    cases len <;> simp only [op1] at h ⊢ <;> (split at h <;> first
      | (cases h; done)
      | (split at h <;> first | (cases h; done) | (cases h; exact ⟨rfl, by simp_all⟩)))
  | lenO b x =>
    left
    cases b <;> simp only [op1] at h ⊢ <;> (split at h <;> first | (cases h; done) | (cases h; exact ⟨rfl, by simp_all⟩))
  | tassert x t z ok =>
    left
    simp only [op1] at h ⊢
    split at h
    · rename_i u y hx
      cases hb : Nat.beq u t <;> cases ok <;> simp only [hb, cond_true, cond_false, reduceCtorEq, Option.some.injEq, Prod.mk.injEq] at h ⊢ <;> (obtain ⟨rfl, rfl⟩ := h; simp)
    · cases ok <;> simp only [cond_true, cond_false, reduceCtorEq, Option.some.injEq, Prod.mk.injEq] at h ⊢ <;> (obtain ⟨rfl, rfl⟩ := h; simp)
    · cases h
  | _ =>
    left
    simp only [op1] at h ⊢
    first
      | (cases h; exact ⟨rfl, rfl⟩)
      | (repeat' split at h) <;> first
        | (cases h; done)
        | (cases h; exact ⟨rfl, by simp_all⟩)
        | (rw [Bool.cond_eq_ite] at h; split at h <;> first | (cases h; done) | (cases h; exact ⟨rfl, by simp_all⟩))
        | skip

end Go.Ax
