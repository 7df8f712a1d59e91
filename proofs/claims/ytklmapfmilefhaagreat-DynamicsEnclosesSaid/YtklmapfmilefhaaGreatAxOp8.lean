/-
  AX, PART 11: every operation that calls nothing.
-/
import Derived.Test.YtklmapfmilefhaaGreatAxOp7
set_option linter.unusedSimpArgs false
set_option linter.unusedVariables false
set_option linter.unusedSectionVars false
namespace Go.Ax
variable {P : Program}
section
variable {φ : Phi} {σ : AHeap} {w : World} {ρ ρ' : Operand → Value} {o : Oper} {v : Value} {σ' : AHeap}

theorem parts_mem {parts : Array (Nat × Operand)} (hx : ∀ x ∈ ((parts.toList.map (·.2)).toArray).toList, VRel φ (ρ x) (ρ' x)) : ∀ p ∈ parts.toList, VRel φ (ρ p.2) (ρ' p.2) :=
  fun p hp => hx p.2 (by simp only [List.mem_map]; exact ⟨p, hp, rfl⟩)

theorem op1_sound {aop : AOp} (hc : compOp P o.op = some aop) (hx : ∀ x ∈ o.op.operands.toList, VRel φ (ρ x) (ρ' x)) (hR : R P φ σ w) (h : op1 ρ σ aop = some (v, σ')) : OpOk P φ σ w ρ' o v σ' := by
  generalize ho : o.op = op at hc hx
  cases op with
  | move x =>
    simp only [compOp, Option.some.injEq] at hc; subst hc
    exact ok_mv (fun w => by simp [execOp, ho]) (hx x (by simp [Op.operands])) hR h
  | assign x =>
    simp only [compOp, Option.some.injEq] at hc; subst hc
    exact ok_mv (fun w => by simp [execOp, ho]) (hx x (by simp [Op.operands])) hR h
  | pick c a b =>
    simp only [compOp, Option.some.injEq] at hc; subst hc
    exact ok_pick ho (hx c (by simp [Op.operands])) (hx a (by simp [Op.operands])) (hx b (by simp [Op.operands])) hR h
  | alloc e =>
    simp only [compOp, Option.map_eq_some_iff] at hc
    obtain ⟨z, hz, rfl⟩ := hc
    exact ok_alloc ho hz hR h
  | box e x =>
    simp only [compOp, Option.some.injEq] at hc; subst hc
    exact ok_box ho (hx x (by simp [Op.operands])) hR h
  | build t parts =>
    simp only [compOp] at hc
    cases hz : zeroOf P t with
    | none => simp [hz] at hc
    | some z =>
      simp only [hz, Option.bind_eq_bind, Option.bind_some] at hc
      split at hc
      · rename_i fs ht
        split at hc
        · rename_i hall
          simp only [Option.bind_eq_some_iff, Option.some.injEq] at hc
          obtain ⟨qs, hq, rfl⟩ := hc
          refine ok_build_struct ho hz ht (fun f hf => ?_) hq (parts_mem hx) hR h
          have := List.all_eq_true.1 hall f hf
          exact Option.isSome_iff_exists.1 this
        · cases hc
      · rename_i n e ht
        simp only [Option.bind_eq_some_iff, Option.some.injEq] at hc
        obtain ⟨s, hs, qs, hq, rfl⟩ := hc
        exact ok_build_array ho hz ht hs hq (parts_mem hx) hR h
      · cases hc
  | buildSlice t len parts =>
    simp only [compOp] at hc
    split at hc
    · rename_i e ht
      simp only [Option.bind_eq_bind, Option.bind_eq_some_iff] at hc
      obtain ⟨s, hs, z, hz, hc⟩ := hc
      split at hc
      · rename_i hl
        simp only [Option.bind_eq_some_iff, Option.some.injEq] at hc
        obtain ⟨qs, hq, rfl⟩ := hc
        exact ok_buildSlice ho ht hs hz hl.1 hl.2 hq (parts_mem hx) hR h
      · cases hc
    · cases hc
  | load t x =>
    simp only [compOp, Option.map_eq_some_iff] at hc
    obtain ⟨s, hs, rfl⟩ := hc
    exact ok_load ho hs (hx x (by simp [Op.operands])) hR h
  | store t x y =>
    simp only [compOp, Option.map_eq_some_iff] at hc
    obtain ⟨s, hs, rfl⟩ := hc
    exact ok_store ho hs (hx x (by simp [Op.operands])) (hx y (by simp [Op.operands])) hR h
  | nilCheck x =>
    simp only [compOp, Option.some.injEq] at hc; subst hc
    exact ok_nilCheck ho (hx x (by simp [Op.operands])) hR h
  | binOp op t x y u =>
    simp only [compOp, Option.some.injEq] at hc; subst hc
    exact ok_bin ho (hx x (by simp [Op.operands])) (hx y (by simp [Op.operands])) hR h
  | unOp op t x =>
    simp only [compOp, Option.some.injEq] at hc; subst hc
    exact ok_un ho (hx x (by simp [Op.operands])) hR h
  | convert s d x =>
    simp only [compOp] at hc
    split at hc
    · rename_i k j hs hd
      cases hc
      exact ok_conv ho hs hd (hx x (by simp [Op.operands])) hR h
    · rename_i hs hd
      cases hc
      exact ok_strMv ho hs hd (hx x (by simp [Op.operands])) hR h
    · cases hc
  | makeInterface t x =>
    simp only [compOp] at hc
    split at hc
    · cases hc
    · rename_i d hn hd
      cases hc
      exact ok_mkI ho hd (fun ms e => hn ms e) (hx x (by simp [Op.operands])) hR h
    · cases hc
  | makeFunc fn a b =>
    cases fn <;> simp only [compOp, Option.some.injEq, reduceCtorEq] at hc
    subst hc
    exact ok_mkF ho (fun x hxm => hx x (by simp only [Op.operands, Array.toList_append, List.mem_append]; exact .inl hxm)) (fun x hxm => hx x (by simp only [Op.operands, Array.toList_append, List.mem_append]; exact .inr hxm)) hR h
  | makeSlice t l c =>
    simp only [compOp] at hc
    split at hc
    · rename_i e ht
      simp only [Option.bind_eq_bind, Option.bind_eq_some_iff] at hc
      obtain ⟨i, hi, z, hz, hc⟩ := hc
      split at hc
      · rename_i hl
        cases hc
        exact ok_makeSlice ho ht hi hz hl (hx l (by simp [Op.operands])) (hx c (by simp [Op.operands])) hR h
      · cases hc
    · cases hc
  | slice t x lo hi mx =>
    cases mx with
    | some m => simp [compOp] at hc
    | none =>
      have hlo : ∀ y, lo = some y → VRel φ (ρ y) (ρ' y) := fun y e => hx y (by simp [Op.operands, e])
      have hhi : ∀ y, hi = some y → VRel φ (ρ y) (ρ' y) := fun y e => hx y (by simp [Op.operands, e])
      have hxx := hx x (by simp [Op.operands])
      simp only [compOp] at hc
      split at hc
      · rename_i ht
        cases hc
        exact ok_slcS ho ht hxx hlo hhi hR h
      · rename_i e ht
        simp only [Option.bind_eq_bind, Option.bind_eq_some_iff, Option.some.injEq] at hc
        obtain ⟨s, hs, rfl⟩ := hc
        exact ok_slc ho ht hs hxx hlo hhi hR h
      · rename_i n e ht
        simp only [Option.bind_eq_bind, Option.bind_eq_some_iff, Option.some.injEq] at hc
        obtain ⟨s, hs, rfl⟩ := hc
        exact ok_slcA ho ht hs hxx hlo hhi hR h
      · cases hc
  | fieldAddr t x f =>
    simp only [compOp] at hc
    split at hc
    · rename_i fs ht
      split at hc
      · rename_i fl hf
        split at hc
        · rename_i s hs
          split at hc
          · cases hc
          · rename_i hs0
            cases hc
            exact ok_fieldAddr ho ht hf hs hs0 (hx x (by simp [Op.operands])) hR h
        · cases hc
      · cases hc
    · cases hc
  | field t x f =>
    simp only [compOp] at hc
    split at hc
    · rename_i fs ht
      split at hc
      · rename_i fl hf
        simp only [Option.map_eq_some_iff] at hc
        obtain ⟨s, hs, rfl⟩ := hc
        exact ok_field ho ht hf hs (hx x (by simp [Op.operands])) hR h
      · cases hc
    · cases hc
  | indexAddr t x i =>
    simp only [compOp] at hc
    split at hc
    · rename_i e ht
      simp only [Option.map_eq_some_iff] at hc
      obtain ⟨s, hs, rfl⟩ := hc
      exact ok_idxAddr_slice ho ht hs (hx x (by simp [Op.operands])) (hx i (by simp [Op.operands])) hR h
    · rename_i n e ht
      simp only [Option.map_eq_some_iff] at hc
      obtain ⟨s, hs, rfl⟩ := hc
      exact ok_idxAddr_array ho ht hs (hx x (by simp [Op.operands])) (hx i (by simp [Op.operands])) hR h
    · cases hc
  | index t x i =>
    simp only [compOp] at hc
    split at hc
    · rename_i ht
      cases hc
      exact ok_idxS ho ht (hx x (by simp [Op.operands])) (hx i (by simp [Op.operands])) hR h
    · rename_i n e ht
      simp only [Option.bind_eq_bind, Option.bind_eq_some_iff, Option.some.injEq] at hc
      obtain ⟨s, hs, sz, hsz, rfl⟩ := hc
      exact ok_idx ho ht hs hsz (hx x (by simp [Op.operands])) (hx i (by simp [Op.operands])) hR h
    · cases hc
  | typeAssert x xt t ok =>
    simp only [compOp] at hc
    split at hc
    · cases hc
    · rename_i d i hn hd hi
      split at hc
      · rename_i z hz
        split at hc
        · rename_i hcl
          cases hc
          exact ok_tassert ho hd (fun ms e => hn ms e) hi hz hcl (hx x (by simp [Op.operands])) hR h
        · cases hc
      · cases hc
    · cases hc
  | extract x i =>
    simp only [compOp, Option.some.injEq] at hc; subst hc
    exact ok_ext ho (hx x (by simp [Op.operands])) hR h
  | call c =>
    obtain ⟨cal, args, ats⟩ := c
    cases cal with
    | value f => simp only [compOp, Option.some.injEq] at hc; subst hc; simp [op1] at h
    | invoke r name => simp only [compOp, Option.some.injEq] at hc; subst hc; simp [op1] at h
    | builtin b =>
      have hxa : ∀ x ∈ args.toList, VRel φ (ρ x) (ρ' x) := fun x hxm => hx x (by simpa [Op.operands, Call.operands] using hxm)
      have ofList : ∀ {α : Type} (a : Array α) (l : List α), a.toList = l → a = l.toArray := fun a l e => by rw [← e]
      cases b <;> simp only [compOp, Option.some.injEq, reduceCtorEq] at hc
      case append =>
        split at hc
        · rename_i t u s x ha1 ha2
          obtain rfl := ofList _ _ ha1
          obtain rfl := ofList _ _ ha2
          split at hc
          · rename_i e e' ht hu
            split at hc
            · rename_i i hi
              split at hc
              · rename_i z hz
                split at hc
                · rename_i hs0
                  cases hc
                  exact ok_append ho ht hu (.inl ⟨_, rfl⟩) hi hz hs0.1 hs0.2 (hxa s (by simp)) (hxa x (by simp)) hR h
                · cases hc
              · cases hc
            · cases hc
          · rename_i e ht hu
            split at hc
            · rename_i i hi
              split at hc
              · rename_i z hz
                split at hc
                · rename_i hs0
                  cases hc
                  exact ok_append ho ht hu (.inr rfl) hi hz hs0.1 hs0.2 (hxa s (by simp)) (hxa x (by simp)) hR h
                · cases hc
              · cases hc
            · cases hc
          · cases hc
        · cases hc
      case copy =>
        split at hc
        · rename_i t u d s ha1 ha2
          obtain rfl := ofList _ _ ha1
          obtain rfl := ofList _ _ ha2
          split at hc
          · rename_i e ht
            simp only [Option.map_eq_some_iff] at hc
            obtain ⟨z, hz, rfl⟩ := hc
            exact ok_copy ho ht hz (hxa d (by simp)) (hxa s (by simp)) hR h
          · cases hc
        · cases hc
      case len =>
        split at hc
        · rename_i t x ha1 ha2
          obtain rfl := ofList _ _ ha1
          obtain rfl := ofList _ _ ha2
          split at hc
          · rename_i ht
            cases hc
            exact ok_lenS ho ht (hxa x (by simp)) hR h
          · rename_i e ht
            cases hc
            exact ok_lenL ho ht (hxa x (by simp)) hR h
          · rename_i n e ht
            cases hc
            exact ok_lenC ho (.inl ⟨e, ht⟩) hR h
          · rename_i a ht
            split at hc
            · rename_i n e ha
              cases hc
              exact ok_lenC ho (.inr ⟨a, e, ht, ha⟩) hR h
            · cases hc
          · cases hc
        · cases hc
      case min => subst hc; exact ok_minmax (isMax := false) rfl ho hxa hR h
      case max => subst hc; exact ok_minmax (isMax := true) rfl ho hxa hR h
  | _ => simp [compOp] at hc

end
end Go.Ax
