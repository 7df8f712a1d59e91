/-
  AX: more rules for code.
-/
import Derived.Test.YtklmapfmilefhaaGreatAxArith
set_option linter.unusedSimpArgs false
set_option linter.unusedVariables false
set_option linter.unusedSectionVars false
namespace Go.Ax
variable {cf : CallF} {n : Nat} {τ : Tmps} {σ : AHeap} {Q : AExit → Tmps → AHeap → Prop}

theorem evalOpsD_nochk : ∀ (ops : List AOper) (k : Nat) (τ : Tmps) (σ : AHeap) (hs : List (Nat × AHeap × AHeap)), ops.all (fun o => o.chk.isEmpty) = true → ∀ τ' σ', evalOps cf ops τ σ = some (τ', σ') →
    ∃ hs', evalOpsD cf k ops τ σ hs [] = some (τ', σ', hs', [])
  | [], k, τ, σ, hs, _, τ', σ', h => by
    simp only [evalOps, Option.some.injEq, Prod.mk.injEq] at h
    obtain ⟨rfl, rfl⟩ := h
    exact ⟨hs, rfl⟩
  | o :: rest, k, τ, σ, hs, hc, τ', σ', h => by
    simp only [List.all_cons, Bool.and_eq_true] at hc
    simp only [evalOps] at h
    simp only [evalOpsD]
    cases hw : wantedA τ o.guard with
    | true =>
      simp only [hw] at h ⊢
      cases h2 : op2 cf (opd τ) σ o.op with
      | none => simp [h2] at h
      | some p =>
        obtain ⟨v, σ1⟩ := p
        simp only [h2] at h
        simp only [chkFine, hc.1, Bool.true_or, cond_true]
        exact evalOpsD_nochk rest _ _ _ _ hc.2 τ' σ' h
    | false =>
      simp only [hw] at h ⊢
      exact evalOpsD_nochk rest _ _ _ _ hc.2 τ' σ' h

theorem c_dregion {ops : List AOper} (hc : ops.all (fun o => o.chk.isEmpty) = true) (h : EvO cf ops τ σ (Q .normal)) : EvC cf n (.dregion ops) τ σ Q := by
  obtain ⟨τ1, σ1, h1, h2⟩ := h
  obtain ⟨hs, h3⟩ := evalOpsD_nochk ops 0 τ σ [] hc τ1 σ1 h1
  exact ⟨.normal, τ1, σ1, by simp only [evalC, h3, drawnOk, List.all_nil, cond_true], h2⟩

def EvD (cf : CallF) (k : Nat) (ops : List AOper) (τ : Tmps) (σ : AHeap) (hs : List (Nat × AHeap × AHeap)) (ids : List (Nat × List Nat)) (q : Tmps → AHeap → List (Nat × AHeap × AHeap) → List (Nat × List Nat) → Prop) : Prop :=
  ∃ τ' σ' hs' ids', evalOpsD cf k ops τ σ hs ids = some (τ', σ', hs', ids') ∧ q τ' σ' hs' ids'
variable {q : Tmps → AHeap → List (Nat × AHeap × AHeap) → List (Nat × List Nat) → Prop} {k : Nat} {hs : List (Nat × AHeap × AHeap)} {ids : List (Nat × List Nat)}
theorem d_nil (h : q τ σ hs ids) : EvD cf k [] τ σ hs ids q := ⟨τ, σ, hs, ids, rfl, h⟩
theorem d_step {dst : Option Tmp} {op : AOp} {g : Option (Option Tmp × Bool)} {chk : List Nat} {rest : List AOper} {v : Value} {σ' : AHeap} (hw : wantedA τ g = true) (ho : op2 cf (opd τ) σ op = some (v, σ')) (hf : chkFine chk σ (loadsAt (opd τ) op) = true)
    (h : EvD cf (k + 1) rest (putA τ dst v) σ' (cond (isWriter op) ((k, σ, σ') :: hs) hs) (cond chk.isEmpty ids ((loadsAt (opd τ) op, chk) :: ids)) q) : EvD cf k (⟨dst, op, g, chk⟩ :: rest) τ σ hs ids q := by
  obtain ⟨τ1, σ1, hs1, ids1, h1, h2⟩ := h
  exact ⟨τ1, σ1, hs1, ids1, by simp only [evalOpsD, hw, ho, hf, cond_true]; exact h1, h2⟩
theorem d_skip {dst : Option Tmp} {op : AOp} {g : Option (Option Tmp × Bool)} {chk : List Nat} {rest : List AOper} (hw : wantedA τ g = false) (h : EvD cf (k + 1) rest (putA τ dst undef) σ hs ids q) :
    EvD cf k (⟨dst, op, g, chk⟩ :: rest) τ σ hs ids q := by
  obtain ⟨τ1, σ1, hs1, ids1, h1, h2⟩ := h
  exact ⟨τ1, σ1, hs1, ids1, by simp only [evalOpsD, hw]; exact h1, h2⟩
theorem c_drawn {ops : List AOper} (h : EvD cf 0 ops τ σ [] [] (fun τ' σ' hs ids => drawnOk σ hs ids = true ∧ Q .normal τ' σ')) : EvC cf n (.dregion ops) τ σ Q := by
  obtain ⟨τ1, σ1, hs, ids, h1, h2, h3⟩ := h
  exact ⟨.normal, τ1, σ1, by simp only [evalC, h1, h2, cond_true], h3⟩
/-- A writer that leaves the heap as it was changes nothing. -/
theorem objEq_refl {o : Option AObj} (h : match o with | some x => valsEq x.cells x.cells = true | none => False) : objEq o o = true := by
  cases o with
  | none => exact h.elim
  | some x => simp [objEq, h]

theorem pow_bnd (e lo hi : Nat) (h1 : lo ≤ e) (h2 : e ≤ hi) : (2 : Int) ^ lo ≤ 2 ^ e ∧ (2 : Int) ^ e ≤ 2 ^ hi := by
  have a := Nat.pow_le_pow_right (n := 2) (by omega) h1
  have b := Nat.pow_le_pow_right (n := 2) (by omega) h2
  constructor
  · exact_mod_cast a
  · exact_mod_cast b
end Go.Ax
