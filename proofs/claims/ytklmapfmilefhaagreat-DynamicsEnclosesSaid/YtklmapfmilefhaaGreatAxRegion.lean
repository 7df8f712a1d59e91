/-
  AX, PART 13: frames; regions in text order.
-/
import Derived.Test.YtklmapfmilefhaaGreatAxCall
set_option linter.unusedSimpArgs false
set_option linter.unusedVariables false
set_option linter.unusedSectionVars false
namespace Go.Ax
variable {P : Program}

def TRel (φ : Phi) (τ : Tmps) (tmps : Array Value) : Prop := ∀ t, VRel φ (τ.at t) (tmps.getD t undef)

theorem TRel.mono {φ φ' : Phi} {τ : Tmps} {tmps : Array Value} (h : TRel φ τ tmps) (hl : Le φ φ') : TRel φ' τ tmps := fun t => (h t).mono hl

theorem at_set (τ : Tmps) (d : Nat) (v : Value) (t : Nat) : Tmps.at (τ.set d (some v)) t = if t = d then v else τ.at t := by
  unfold Tmps.at
  rw [T.get_set]
  by_cases h : t = d <;> simp [h]

theorem getD_set (tmps : Array Value) (d : Nat) (v : Value) (t : Nat) (hd : d < tmps.size) : (tmps.setIfInBounds d v).getD t undef = if t = d then v else tmps.getD t undef := by
  by_cases h : t = d
  · subst h; simp [hd]
  · simp [h, Array.getElem?_setIfInBounds_ne (Ne.symm h)]

theorem TRel.put {φ : Phi} {τ : Tmps} {a : Act} {dst : Option Tmp} {v v' : Value} (h : TRel φ τ a.tmps) (hv : VRel φ v v') (hd : ∀ d, dst = some d → d < a.tmps.size) : TRel φ (putA τ dst v) (a.put dst v').tmps := by
  cases dst with
  | none => exact h
  | some d =>
    intro t
    simp only [putA, Act.put, at_set, getD_set _ _ _ _ (hd d rfl)]
    split
    · exact hv
    · exact h t

theorem put_size (a : Act) (dst : Option Tmp) (v : Value) : (a.put dst v).tmps.size = a.tmps.size := by cases dst <;> simp [Act.put]
theorem put_defers' (a : Act) (dst : Option Tmp) (v : Value) : (a.put dst v).defers = a.defers := by cases dst <;> rfl

theorem opd_rel {φ : Phi} {τ : Tmps} {a : Act} (h : TRel φ τ a.tmps) (x : Operand) (hx : okOpd x = true) : VRel φ (opd τ x) (a.eval x) := by
  cases x with
  | tmp t => exact h t
  | const v => exact closed_rel φ hx
  | global g => simp [okOpd] at hx
  | func f => exact .func f .nil .nil

theorem wanted_rel {φ : Phi} {τ : Tmps} {a : Act} {ops : Array Oper} {o : Oper} (h : ∀ j w d, o.guard = some (j, w) → dstOf ops.toList j = some d → VRel φ (τ.at d) (a.tmps.getD d undef)) :
    wantedA τ (o.guard.map fun (j, w) => (dstOf ops.toList j, w)) = Region.wanted o (yielded ops a.tmps) := by
  unfold Region.wanted
  cases hg : o.guard with
  | none => rfl
  | some p =>
    obtain ⟨j, want⟩ := p
    simp only [Option.map_some]
    have hd : dstOf ops.toList j = (ops[j]?).bind (·.dst) := by simp [dstOf]
    cases hdst : dstOf ops.toList j with
    | none =>
      have : yielded ops a.tmps j = none := by unfold yielded; rw [← hd, hdst]; rfl
      simp [wantedA, this]
    | some d =>
      have hr := h j want d hg hdst
      simp only [wantedA]
      have hy : yielded ops a.tmps j = (match a.tmps.getD d undef with | .bool b => some b | _ => none) := by
        unfold yielded
        rw [← hd, hdst]
        simp only [Option.bind_some]
        by_cases hlt : d < a.tmps.size
        · simp [hlt]
          cases a.tmps[d] <;> rfl
        · simp [hlt, undef]
      rw [hy]
      generalize τ.at d = x at hr
      generalize a.tmps.getD d undef = y at hr
      cases hr <;> simp

theorem compOper_spec {ops : List Oper} {nt : Nat} {o : Oper} {c : AOper} (h : compOper P ops nt o = some c) :
    compOp P o.op = some c.op ∧ (∀ x ∈ o.op.operands.toList, okOpd x = true) ∧ (∀ d, o.dst = some d → d < nt) ∧ c.dst = o.dst ∧ c.guard = o.guard.map fun (j, w) => (dstOf ops j, w) := by
  unfold compOper at h
  split at h
  · rename_i op hop
    split at h
    · rename_i hb
      cases h
      simp only [Bool.and_eq_true, List.all_eq_true] at hb
      refine ⟨hop, hb.1, fun d hd => ?_, rfl, rfl⟩
      have := hb.2
      rw [hd] at this
      simpa [okDst, Nat.blt_eq] using this
    · cases h
  · cases h

theorem evalOps_tail {cf : CallF} (hcf : SndF P cf) {ops : Array Oper} {nt : Nat} {Q : Exit → Act → World → Prop} (tail : List Nat) : ∀ (m k : Nat), k + m ≤ ops.size → ∀ (cs : List AOper), compOpers P ops.toList nt ((ops.toList.drop k).take m) = some cs →
    ∀ (τ : Tmps) (σ : AHeap) (τ' : Tmps) (σ' : AHeap), evalOps cf cs τ σ = some (τ', σ') → ∀ (φ : Phi) (a : Act) (w : World), R P φ σ w → TRel φ τ a.tmps → nt ≤ a.tmps.size →
    (∀ φ' a' w', Post P φ σ w φ' σ' w' → TRel φ' τ' a'.tmps → nt ≤ a'.tmps.size → a'.defers = a.defers → wpOps P ops Q tail a' w') → wpOps P ops Q (List.range' k m ++ tail) a w
  | 0, k, hk, cs, hc, τ, σ, τ', σ', he, φ, a, w, hR, hT, hs, hQ => by
    rw [List.take_zero] at hc
    simp only [compOpers, Option.some.injEq] at hc
    subst hc
    simp only [evalOps, Option.some.injEq, Prod.mk.injEq] at he
    obtain ⟨rfl, rfl⟩ := he
    exact hQ φ a w (.refl hR) hT hs rfl
  | m + 1, k, hk, cs, hc, τ, σ, τ', σ', he, φ, a, w, hR, hT, hs, hQ => by
    have hlt : k < ops.size := by omega
    have hd : ops.toList.drop k = ops[k] :: ops.toList.drop (k + 1) := by
      rw [List.drop_eq_getElem_cons (by simpa using hlt)]; simp
    rw [hd, List.take_succ_cons] at hc
    simp only [compOpers] at hc
    split at hc
    · rename_i c rest hco hcr
      cases hc
      obtain ⟨hop, hok, hdst, hcd, hcg⟩ := compOper_spec hco
      rw [List.range'_succ, List.cons_append]
      have hget : ops[k]? = some ops[k] := by simp [hlt]
      have hw := wanted_rel (φ := φ) (τ := τ) (a := a) (ops := ops) (o := ops[k]) (fun j w d _ _ => hT d)
      rw [← hcg] at hw
      simp only [wpOps, hget, ← hw]
      simp only [evalOps] at he
      cases hwa : wantedA τ c.guard with
      | false =>
        simp only [hwa] at he
        rw [if_neg (by simp)]
        rw [hcd] at he
        refine evalOps_tail hcf tail m (k + 1) (by omega) rest hcr _ σ τ' σ' he φ _ w hR (hT.put (undef_rel φ) (fun d e => Nat.lt_of_lt_of_le (hdst d e) hs)) (by rw [put_size]; exact hs) ?_
        intro φ' a' w' hp ht hsz hdf
        exact hQ φ' a' w' hp ht hsz (by rw [hdf, put_defers'])
      | true =>
        simp only [hwa] at he
        rw [if_pos rfl]
        cases h2 : op2 cf (opd τ) σ c.op with
        | none => simp [h2] at he
        | some p =>
          obtain ⟨v, σ1⟩ := p
          simp only [h2] at he
          refine .inl (op2_sound hcf hop (fun x hx => opd_rel hT x (hok x hx)) hR h2 ?_)
          intro φ1 w1 v' hp1 hv
          rw [hcd] at he
          refine evalOps_tail hcf tail m (k + 1) (by omega) rest hcr _ σ1 τ' σ' he φ1 _ w1 hp1.rel ((hT.mono hp1.le).put hv (fun d e => Nat.lt_of_lt_of_le (hdst d e) hs)) (by rw [put_size]; exact hs) ?_
          intro φ' a' w' hp ht hsz hdf
          exact hQ φ' a' w' (hp1.trans hp) ht hsz (by rw [hdf, put_defers'])
    · cases hc

theorem evalOps_sound {cf : CallF} (hcf : SndF P cf) {ops : Array Oper} {nt : Nat} {Q : Exit → Act → World → Prop} (m k : Nat) (hk : k + m = ops.size) (cs : List AOper) (hc : compOpers P ops.toList nt (ops.toList.drop k) = some cs)
    (τ : Tmps) (σ : AHeap) (τ' : Tmps) (σ' : AHeap) (he : evalOps cf cs τ σ = some (τ', σ')) (φ : Phi) (a : Act) (w : World) (hR : R P φ σ w) (hT : TRel φ τ a.tmps) (hs : nt ≤ a.tmps.size)
    (hQ : ∀ φ' a' w', Post P φ σ w φ' σ' w' → TRel φ' τ' a'.tmps → nt ≤ a'.tmps.size → a'.defers = a.defers → Q .normal a' w') : wpOps P ops Q (List.range' k m) a w := by
  have := evalOps_tail (ops := ops) hcf (Q := Q) [] m k (by omega) cs (by rw [List.take_of_length_le (by simp; omega)]; exact hc) τ σ τ' σ' he φ a w hR hT hs hQ
  simpa using this

end Go.Ax
