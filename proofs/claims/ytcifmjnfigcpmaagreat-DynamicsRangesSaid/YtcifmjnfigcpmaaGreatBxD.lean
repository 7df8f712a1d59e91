/-
  BX, PART 12: calls and regions in text order.
-/
import Derived.Test.YtcifmjnfigcpmaaGreatBxC
import Derived.Scope
import Derived.LoopN
set_option linter.unusedSimpArgs false
set_option linter.unusedVariables false
set_option linter.unusedSectionVars false
namespace Go.Bx
variable {P : Program}

/-- A call of a function that has a body, or of one that the model stands in for (it yields a value here and now). -/
def CallsE (P : Program) (f : FuncId) (args : Array Value) (w : World) (R : Ending → World → Prop) : Prop :=
  ((∃ fn c, P.funcs[f]? = some fn ∧ fn.body = some c ∧ fn.name ≠ "runtime.NumGoroutine") ∧ Calls P f args w R) ∨ (∃ v, (callFunc f args).run P w = .ok (.value v) w ∧ R (.returned v) w)
theorem CallsE.mono {P : Program} {f : FuncId} {args : Array Value} {w : World} {R R' : Ending → World → Prop} (h : CallsE P f args w R) (hr : ∀ e w', R e w' → R' e w') : CallsE P f args w R' := by
  rcases h with ⟨h1, h2⟩ | ⟨v, h1, h2⟩
  · exact .inl ⟨h1, h2.mono hr⟩
  · exact .inr ⟨v, h1, hr _ _ h2⟩

/-- A caller of functions that is true to the model. -/
def SndF (P : Program) (cf : CallF) : Prop := ∀ f args σ v σ', cf f args σ = some (v, σ') →
  (∃ fn, P.funcs[f]? = some fn) ∧ σ.size ≤ σ'.size ∧
  ∀ φ w args', R P φ σ w → VsRel φ args args' → CallsE P f args'.toArray w fun e w' => ∃ φ' v', e = .returned v' ∧ VRel φ' v v' ∧ Post P φ σ w φ' σ' w'

theorem run_callFunc {g : FuncId} {fn : Func} {c : Code} (hfn : P.funcs[g]? = some fn) (hbody : fn.body = some c) (hname : fn.name ≠ "runtime.NumGoroutine") (args : Array Value) (w : World) : (callFunc g args).run P w = .ok (.enter g args) w := by
  simp [callFunc, hfn, hname, hbody]

theorem CallsE.calls {P : Program} {f : FuncId} {fn : Func} {c : Code} (hfn : P.funcs[f]? = some fn) (hbody : fn.body = some c) (hname : fn.name ≠ "runtime.NumGoroutine") {args : Array Value} {w : World} {R : Ending → World → Prop} (h : CallsE P f args w R) : Calls P f args w R := by
  rcases h with ⟨_, h2⟩ | ⟨v, h1, _⟩
  · exact h2
  · rw [run_callFunc hfn hbody hname] at h1
    cases h1

theorem findTab_mem {t : TypeId} {r : FuncId × RecvMode} : ∀ {l : List (TypeId × FuncId × RecvMode)}, findTab t l = some r → (t, r) ∈ l
  | [], h => by simp [findTab] at h
  | (u, q) :: rest, h => by
    simp only [findTab] at h
    rw [Bool.cond_eq_ite] at h
    split at h
    · rename_i hb
      have := Nat.eq_of_beq_eq_true hb
      cases h
      subst this
      exact List.mem_cons_self
    · exact List.mem_cons_of_mem _ (findTab_mem h)

theorem methodTab_spec {name : String} {t : TypeId} {f : FuncId} {mode : RecvMode} (h : (t, f, mode) ∈ methodTab P name) :
    ∃ i m b, P.info? t = some i ∧ i.methods.find? (·.name == name) = some m ∧ m.path.isEmpty = true ∧ m.func = some (f, b) ∧
      ((mode = .direct ∧ ((b = true ∧ ∃ e, P.underlying t = some (.pointer e)) ∨ (b = false ∧ ∃ d, P.underlying t = some d ∧ ∀ e, d ≠ .pointer e))) ∨
       (∃ sz e, mode = .deref sz ∧ b = false ∧ P.underlying t = some (.pointer e) ∧ oneOrAgg P e = some sz)) := by
  unfold methodTab at h
  simp only [List.mem_filterMap, List.mem_range] at h
  obtain ⟨u, _, h⟩ := h
  split at h
  · rename_i i hi
    split at h
    · rename_i m hm
      split at h
      · rename_i hp
        split at h
        · rename_i g hf
          split at h
          · rename_i e hu
            cases h
            exact ⟨i, m, true, hi, hm, hp, hf, .inl ⟨rfl, .inl ⟨rfl, e, hu⟩⟩⟩
          · cases h
        · rename_i g hf
          split at h
          · rename_i e hu
            split at h
            · rename_i sz hs
              cases h
              exact ⟨i, m, false, hi, hm, hp, hf, .inr ⟨sz, e, rfl, rfl, hu, hs⟩⟩
            · cases h
          · rename_i d hn hu
            cases h
            exact ⟨i, m, false, hi, hm, hp, hf, .inl ⟨rfl, .inr ⟨rfl, d, hu, fun e he => hn e he⟩⟩⟩
          · cases h
        · cases h
      · cases h
    · cases h
  · cases h

theorem run_method {name : String} {t : TypeId} {f : FuncId} {mode : RecvMode} (h : (t, f, mode) ∈ methodTab P name) (n : Nat) {φ : Phi} {σ : AHeap} {w : World} (hR : R P φ σ w) {v v' : Value} (hv : VRel φ v v') {u : Value}
    (hm : recvOf σ v mode = some u) :
    ∃ u', (method (n + 1) t v' name).run P w = .ok (f, u') w ∧ VRel φ u u' := by
  obtain ⟨i, m, b, hi, hfm, hp, hf, hcase⟩ := methodTab_spec h
  have hpl : m.path.toList = [] := by simpa [Array.isEmpty_iff] using hp
  rcases hcase with ⟨rfl, hd⟩ | ⟨sz, e, rfl, rfl, hu, hs⟩
  · cases hm
    refine ⟨v', ?_, hv⟩
    rcases hd with ⟨rfl, e, hu⟩ | ⟨rfl, d, hu, hn⟩
    · simp [method, run_info hi, hfm, hpl, follow, hf, receiverAt, run_underlying hu, Place.get]
    · have hrec : (receiverAt t (.val v') false (if m.path.isEmpty then some ((name.splitOn ".").getLastD name) else none)).run P w = .ok v' w := by
        cases d <;> first | exact absurd rfl (hn _) | simp [receiverAt, run_underlying hu, Place.get]
      simp only [method, Sem.run_bind, run_info hi, Result.andThen_ok, hfm, hpl, follow, Sem.run_pure, hf, hrec]
  · obtain ⟨a', u', rfl, hl, hr⟩ : ∃ a' u', v' = .pointer (some a') ∧ (loadVar e a').run P w = .ok u' w ∧ VRel φ u u' := by
      simp only [recvOf] at hm
      split at hm
      · cases hv with
        | ptr ha =>
          obtain ⟨u', hl, hr⟩ := read_sound hR hs ha hm
          exact ⟨_, u', rfl, hl, hr⟩
      · cases hv with
        | bvp hf =>
          obtain ⟨a', u', e', hl, hr⟩ := bv_read hR hs hf hm
          exact ⟨a', u', e', hl, hr⟩
      · cases hm
    refine ⟨u', ?_, hr⟩
    have hwn : ∀ nm, (Builtin.ssaWrapNilChk_ #[t] t #[.pointer (some a'), strVal "", strVal nm]).run P w = .ok (.pointer (some a')) w := fun nm => rfl
    have hrec : (receiverAt t (.val (.pointer (some a'))) false (if m.path.isEmpty then some ((name.splitOn ".").getLastD name) else none)).run P w = .ok u' w := by
      simp [receiverAt, run_underlying hu, Place.get, hp, hwn, asAddr, hl]
    simp only [method, Sem.run_bind, run_info hi, Result.andThen_ok, hfm, hpl, follow, Sem.run_pure, hf, hrec]

def isCallA : AOp → Bool
  | .call _ _ | .invoke _ _ _ => true
  | _ => false

theorem compOp_isCall {op : Op} {aop : AOp} (hc : compOp P op = some aop) (hn : ∀ c, op = .call c → ∃ b, c.callee = .builtin b) : isCallA aop = false := by
  cases op with
  | call c =>
    obtain ⟨b, hb⟩ := hn c rfl
    obtain ⟨cal, args, ats⟩ := c
    simp only at hb
    subst hb
    cases b <;> simp only [compOp, reduceCtorEq, Option.some.injEq] at hc
    case min => subst hc; rfl
    case max => subst hc; rfl
    all_goals
      split at hc
      · split at hc <;> first
          | cases hc; rfl
          | cases hc; done
          | (simp only [Option.map_eq_some_iff] at hc; obtain ⟨_, _, rfl⟩ := hc; rfl)
          | (split at hc <;> first
            | cases hc; rfl
            | cases hc; done
            | (split at hc <;> first
              | cases hc; done
              | (split at hc <;> cases hc; rfl)))
      · cases hc
  | makeFunc fn a b => cases fn <;> simp only [compOp, Option.some.injEq, reduceCtorEq] at hc; subst hc; rfl
  | slice t x lo hi mx =>
    cases mx with
    | some m => simp [compOp] at hc
    | none =>
      simp only [compOp] at hc
      split at hc <;> first
        | cases hc; rfl
        | cases hc; done
        | (simp only [Option.bind_eq_bind, Option.bind_eq_some_iff, Option.some.injEq] at hc; obtain ⟨_, _, rfl⟩ := hc; rfl)
  | build t parts =>
    simp only [compOp, Option.bind_eq_bind, Option.bind_eq_some_iff] at hc
    obtain ⟨z, _, hc⟩ := hc
    split at hc
    · split at hc
      · simp only [Option.bind_eq_some_iff, Option.some.injEq] at hc; obtain ⟨_, _, rfl⟩ := hc; rfl
      · cases hc
    · simp only [Option.bind_eq_some_iff, Option.some.injEq] at hc; obtain ⟨_, _, _, _, rfl⟩ := hc; rfl
    · cases hc
  | buildSlice t len parts =>
    simp only [compOp] at hc
    split at hc
    · simp only [Option.bind_eq_bind, Option.bind_eq_some_iff] at hc
      obtain ⟨_, _, _, _, hc⟩ := hc
      split at hc
      · simp only [Option.bind_eq_some_iff, Option.some.injEq] at hc; obtain ⟨_, _, rfl⟩ := hc; rfl
      · cases hc
    · cases hc
  | makeSlice t l c =>
    simp only [compOp] at hc
    split at hc
    · simp only [Option.bind_eq_bind, Option.bind_eq_some_iff] at hc
      obtain ⟨_, _, _, _, hc⟩ := hc
      split at hc <;> cases hc
      rfl
    · cases hc
  | index t x i =>
    simp only [compOp] at hc
    split at hc <;> first
      | cases hc; rfl
      | cases hc; done
      | (simp only [Option.bind_eq_bind, Option.bind_eq_some_iff, Option.some.injEq] at hc; obtain ⟨_, _, _, _, rfl⟩ := hc; rfl)
  | _ =>
    simp only [compOp, Option.some.injEq, Option.map_eq_some_iff, reduceCtorEq] at hc <;> first
      | (subst hc; rfl)
      | (obtain ⟨_, _, rfl⟩ := hc; rfl)
      | (split at hc <;> first
        | cases hc; rfl
        | cases hc; done
        | (simp only [Option.map_eq_some_iff] at hc; obtain ⟨_, _, rfl⟩ := hc; rfl)
        | (split at hc <;> first
          | cases hc; rfl
          | cases hc; done
          | (simp only [Option.map_eq_some_iff] at hc; obtain ⟨_, _, rfl⟩ := hc; rfl)
          | (split at hc <;> first
            | cases hc; rfl
            | cases hc; done
            | (split at hc <;> first | cases hc; done | (cases hc; rfl)))))

theorem op2_op1 {cf : CallF} {ρ : Operand → Value} {σ : AHeap} {aop : AOp} (h : isCallA aop = false) : op2 cf ρ σ aop = op1 ρ σ aop := by
  cases aop <;> first | rfl | simp [isCallA] at h

theorem op2_sound {cf : CallF} (hcf : SndF P cf) {o : Oper} {aop : AOp} (hc : compOp P o.op = some aop) {ρ : Operand → Value} {a : Act} {φ : Phi} {σ : AHeap} {w : World} (hx : ∀ x ∈ o.op.operands.toList, VRel φ (ρ x) (a.eval x)) (hR : R P φ σ w)
    {v : Value} {σ' : AHeap} (h : op2 cf ρ σ aop = some (v, σ')) {next : Act → World → Prop} {Q : Exit → Act → World → Prop} (hn : ∀ φ' w' v', Post P φ σ w φ' σ' w' → VRel φ' v v' → next (a.put o.dst v') w') : o.wp P a w next Q := by
  have simple : op1 ρ σ aop = some (v, σ') → o.wp P a w next Q := by
    intro h1
    obtain ⟨φ', w', v', hpost, hv, hrun⟩ := op1_sound (ρ' := a.eval) hc hx hR h1
    unfold Oper.wp
    rcases hrun with hrun | ⟨hrun, rfl⟩
    · rw [hrun]; exact hn φ' w' v' hpost hv
    · rw [hrun]; exact hn φ' w' undef hpost hv
  have callG : ∀ g args args', cf g args σ = some (v, σ') → VsRel φ args args' → ((execOp a.eval o).run P w = (callFunc g args'.toArray).run P w) → o.wp P a w next Q := by
    intro g args args' hcall hargs hrun
    obtain ⟨_, _, hcalls⟩ := hcf g args σ v σ' hcall
    unfold Oper.wp
    rw [hrun]
    rcases hcalls φ w args' hR hargs with ⟨⟨fn, cc, hfn, hbody, hname⟩, hcalls⟩ | ⟨v1, hv1, φ', v', he, hv, hpost⟩
    · rw [run_callFunc hfn hbody hname, Oper.upon_enter]
      refine hcalls.mono ?_
      rintro e w' ⟨φ', v', rfl, hv, hpost⟩
      exact hn φ' w' v' hpost hv
    · cases he
      rw [hv1, Oper.upon_value]
      exact hn φ' w _ hpost hv
  generalize ho : o.op = op at hc hx
  cases op with
  | call c =>
    obtain ⟨cal, args, ats⟩ := c
    cases cal with
    | builtin b =>
      exact simple (by rwa [op2_op1 (compOp_isCall hc (fun c e => by cases e; exact ⟨b, rfl⟩))] at h)
    | value f =>
      simp only [compOp, Option.some.injEq] at hc
      subst hc
      simp only [op2] at h
      split at h
      · rename_i g first captured hf
        have hfr := hx f (by simp [Op.operands, Call.operands])
        rw [hf] at hfr
        generalize hq : a.eval f = fv at hfr
        cases hfr with
        | func _ h1 h2 =>
          rename_i first' captured'
          have hargs : VsRel φ (args.toList.map ρ) (args.toList.map a.eval) := vs_map fun x hxm => hx x (by simp only [Op.operands, Call.operands, Array.toList_append, List.mem_append]; exact .inr hxm)
          refine callG g _ _ h (h1.append (hargs.append h2)) ?_
          have e1 : (first' ++ args.map a.eval ++ captured') = (first'.toList ++ (args.toList.map a.eval ++ captured'.toList)).toArray := by
            apply Array.ext'; simp
          simp only [execOp, ho, resolve, hq, Deferred.ofValue, Sem.run_bind, Sem.run_pure, Result.andThen_ok, invoke, e1]
      · cases h
    | invoke r name =>
      simp only [compOp, Option.some.injEq] at hc
      subst hc
      simp only [op2] at h
      split at h
      · rename_i t y hr
        have hrr := hx r (by simp [Op.operands, Call.operands])
        rw [hr] at hrr
        generalize hq : a.eval r = rv at hrr
        cases hrr with
        | iface _ hy =>
          rename_i y'
          have hargs : VsRel φ (args.toList.map ρ) (args.toList.map a.eval) := vs_map fun x hxm => hx x (by simp only [Op.operands, Call.operands, Array.toList_append, List.mem_append]; exact .inr hxm)
          have key : ∀ g mode u, findTab t (methodTab P name) = some (g, mode) → recvOf σ y mode = some u → cf g (u :: args.toList.map ρ) σ = some (v, σ') → o.wp P a w next Q := by
            intro g mode u hft hu hcall
            have hmem := findTab_mem hft
            have hlt : ∃ m, P.types.size + Made.depth = m + 1 := ⟨P.types.size + 99, by simp [Made.depth]⟩
            obtain ⟨m, hm⟩ := hlt
            obtain ⟨u', hrunm, hur⟩ := run_method hmem m hR hy hu
            refine callG g _ _ hcall (.cons hur hargs) ?_
            have : (execOp a.eval o).run P w = (callFunc g (u' :: args.toList.map a.eval).toArray).run P w := by
              simp only [execOp, ho, resolve, hq, Sem.run_bind, Sem.run_pure, Result.andThen_ok, invoke]
              have e0 : (#[Value.iface t y'] ++ args.map a.eval)[0]? = some (.iface t y') := by rw [Array.getElem?_append_left (by simp)]; rfl
              generalize (#[Value.iface t y'] ++ args.map a.eval)[0]? = x0 at e0 ⊢
              subst e0
              have e2 : (#[Value.iface t y'] ++ args.map a.eval).extract 1 = (args.toList.map a.eval).toArray := by
                apply Array.ext'
                simp [Array.toList_extract, List.extract_eq_take_drop]
                exact List.take_of_length_le (by simp)
              have e3 : #[u'] ++ (args.toList.map a.eval).toArray = (u' :: args.toList.map a.eval).toArray := by simp
              simp only [callMethod, Sem.run_bind, run_program, Result.andThen_ok, hm, hrunm, e2, e3]
            exact this
          split at h
          · rename_i g mode hft
            cases hrd : recvOf σ y mode with
            | none => simp [hrd] at h
            | some u =>
              simp only [hrd] at h
              exact key g mode u hft hrd h
          · cases h
      · cases h
  | _ => exact simple (by rwa [op2_op1 (compOp_isCall hc (fun c e => by cases e))] at h)

end Go.Bx

namespace Go.Bx

theorem op1_size {ρ : Operand → Value} {σ : AHeap} {op : AOp} {v : Value} {σ' : AHeap} (h : op1 ρ σ op = some (v, σ')) : σ.size ≤ σ'.size := by
  cases op with
  | append e sz b s x =>
    simp only [op1, appendA] at h
    split at h
    · cases h
    · split at h
      · rw [Bool.cond_eq_ite] at h
        split at h
        · rw [Bool.cond_eq_ite] at h
          split at h
          · cases h; exact Nat.le_refl _
          · rw [Bool.cond_eq_ite] at h
            split at h
            · cases h; simp [AHeap.size_push]
            · cases h
        · cases h
      · rw [Bool.cond_eq_ite] at h
        split at h
        · cases h; exact Nat.le_refl _
        · split at h
          · cases h
          · rw [Bool.cond_eq_ite] at h
            split at h
            · rw [Bool.cond_eq_ite] at h
              split at h
              · cases h; simp [AHeap.size_put]
              · cases h; simp [AHeap.size_push, AHeap.size_kill]
            · cases h
      · cases h
  | copy sz d s =>
    simp only [op1, copyA] at h
    split at h
    · cases h
    · split at h
      · cases h; exact Nat.le_refl _
      · rw [Bool.cond_eq_ite] at h
        split at h
        · cases h; exact Nat.le_refl _
        · split at h
          · cases h
          · rw [Bool.cond_eq_ite] at h
            split at h
            · cases h; simp [AHeap.size_put]
            · cases h
      · cases h
  | store sz x v =>
    simp only [op1] at h
    split at h
    · split at h
      · rw [Bool.cond_eq_ite] at h
        split at h
        · cases h; simp [AHeap.size_put]
        · cases h
      · cases h
    · cases h
  | alloc e z => simp only [op1, Option.some.injEq, Prod.mk.injEq] at h; obtain ⟨_, rfl⟩ := h; simp [AHeap.size_push]
  | box e x =>
    simp only [op1] at h
    rw [Bool.cond_eq_ite] at h
    split at h
    · cases h; simp [AHeap.size_push]
    · cases h
  | buildSlice e z l p =>
    simp only [op1] at h
    split at h
    · cases h; simp [AHeap.size_push]
    · cases h
  | makeSlice e z b l c =>
    simp only [op1] at h
    split at h
    · rw [Bool.cond_eq_ite] at h
      split at h
      · cases h; simp [AHeap.size_push]
      · cases h
    · cases h
  | idxAddr len sz x i => cases len <;> simp only [op1] at h <;> (repeat' split at h) <;> first | (cases h; done) | (cases h; exact Nat.le_refl _)
  | lenO b x => cases b <;> simp only [op1] at h <;> (repeat' split at h) <;> first | (cases h; done) | (cases h; exact Nat.le_refl _)
  | tassert x t z ok =>
    simp only [op1] at h
    split at h
    · rename_i u y hx
      cases hb : Nat.beq u t <;> cases ok <;> simp only [hb, cond_true, cond_false, reduceCtorEq, Option.some.injEq, Prod.mk.injEq] at h <;> (obtain ⟨_, rfl⟩ := h; exact Nat.le_refl _)
    · cases ok <;> simp only [cond_true, cond_false, reduceCtorEq, Option.some.injEq, Prod.mk.injEq] at h <;> (obtain ⟨_, rfl⟩ := h; exact Nat.le_refl _)
    · cases h
  | _ =>
    simp only [op1] at h
    first
      | (cases h; done)
      | (cases h; exact Nat.le_refl _)
      | (repeat' split at h) <;> first
        | (cases h; done)
        | (cases h; exact Nat.le_refl _)
        | (rw [Bool.cond_eq_ite] at h; split at h <;> first | (cases h; done) | (cases h; exact Nat.le_refl _))

def SizeF (cf : CallF) : Prop := ∀ f args σ v σ', cf f args σ = some (v, σ') → σ.size ≤ σ'.size

theorem op2_size {cf : CallF} (hcf : SizeF cf) {ρ : Operand → Value} {σ : AHeap} {op : AOp} {v : Value} {σ' : AHeap} (h : op2 cf ρ σ op = some (v, σ')) : σ.size ≤ σ'.size := by
  by_cases hc : isCallA op = true
  · cases op <;> simp [isCallA] at hc
    · simp only [op2] at h
      split at h
      · exact hcf _ _ _ _ _ h
      · cases h
    · simp only [op2] at h
      split at h
      · split at h
        · split at h
          · exact hcf _ _ _ _ _ h
          · cases h
        · cases h
      · cases h
  · rw [op2_op1 (by simpa using hc)] at h
    exact op1_size h

theorem evalOps_size {cf : CallF} (hcf : SizeF cf) : ∀ (l : List AOper) (τ : Tmps) (σ : AHeap) (τ' : Tmps) (σ' : AHeap), evalOps cf l τ σ = some (τ', σ') → σ.size ≤ σ'.size
  | [], τ, σ, τ', σ', h => by simp only [evalOps, Option.some.injEq, Prod.mk.injEq] at h; obtain ⟨_, rfl⟩ := h; exact Nat.le_refl _
  | o :: l, τ, σ, τ', σ', h => by
    simp only [evalOps] at h
    split at h
    · cases h
    · split at h
      · rename_i v σ1 h2
        exact Nat.le_trans (op2_size hcf h2) (evalOps_size hcf l _ _ _ _ h)
      · cases h
    · exact evalOps_size hcf l _ _ _ _ h

theorem evalOpsD_size {cf : Nat → CallF} (hcf : ∀ k, SizeF (cf k)) : ∀ (k : Nat) (l : List AOper) (τ : Tmps) (σ : AHeap) (hs : List (Nat × AHeap × AHeap)) (ids : List (Nat × List Nat)) (τ' : Tmps) (σ' : AHeap) (hs' : List (Nat × AHeap × AHeap)) (ids' : List (Nat × List Nat)), evalOpsD cf k l τ σ hs ids = some (τ', σ', hs', ids') → σ.size ≤ σ'.size
  | _, [], τ, σ, hs, ids, τ', σ', hs', ids', h => by simp only [evalOpsD, Option.some.injEq, Prod.mk.injEq] at h; obtain ⟨_, rfl, _⟩ := h; exact Nat.le_refl _
  | _, o :: l, τ, σ, hs, ids, τ', σ', hs', ids', h => by
    simp only [evalOpsD] at h
    split at h
    · cases h
    · split at h
      · rename_i v σ1 h2
        rw [Bool.cond_eq_ite] at h
        split at h
        · exact Nat.le_trans (op2_size (hcf _) h2) (evalOpsD_size hcf _ l _ _ _ _ _ _ _ _ h)
        · cases h
      · cases h
    · exact evalOpsD_size hcf _ l _ _ _ _ _ _ _ _ h

theorem evalC_size {cf : CallF} (hcf : SizeF cf) (n : Nat) : ∀ (c : ACode) (τ : Tmps) (σ : AHeap) (e : AExit) (τ' : Tmps) (σ' : AHeap), evalC cf n c τ σ = some (e, τ', σ') → σ.size ≤ σ'.size := by
  intro c
  induction c with
  | skip | exit id | ret =>
    intro τ σ e τ' σ' h
    simp only [evalC, Option.some.injEq, Prod.mk.injEq] at h
    obtain ⟨_, _, rfl⟩ := h
    exact Nat.le_refl _
  | region ops =>
    intro τ σ e τ' σ' h
    simp only [evalC] at h
    split at h
    · rename_i h1
      simp only [Option.some.injEq, Prod.mk.injEq] at h
      obtain ⟨_, _, rfl⟩ := h
      exact evalOps_size hcf _ _ _ _ _ h1
    · cases h
  | fail => intro τ σ e τ' σ' h; simp [evalC] at h
  | dregion ops =>
    intro τ σ e τ' σ' h
    simp only [evalC] at h
    split at h
    · rename_i h1
      rw [Bool.cond_eq_ite] at h
      split at h
      · simp only [Option.some.injEq, Prod.mk.injEq] at h
        obtain ⟨_, _, rfl⟩ := h
        exact evalOpsD_size (fun _ => hcf) _ _ _ _ _ _ _ _ _ _ h1
      · cases h
    · cases h
  | seq a b iha ihb =>
    intro τ σ e τ' σ' h
    simp only [evalC] at h
    split at h
    · rename_i h1
      exact Nat.le_trans (iha _ _ _ _ _ h1) (ihb _ _ _ _ _ h)
    · exact iha _ _ _ _ _ h
  | cond c a b iha ihb =>
    intro τ σ e τ' σ' h
    simp only [evalC] at h
    split at h
    · exact iha _ _ _ _ _ h
    · exact ihb _ _ _ _ _ h
    · cases h
  | block id c ih =>
    intro τ σ e τ' σ' h
    simp only [evalC] at h
    split at h
    · rename_i h1
      rw [Bool.cond_eq_ite] at h
      split at h <;> (simp only [Option.some.injEq, Prod.mk.injEq] at h; obtain ⟨_, _, rfl⟩ := h; exact ih _ _ _ _ _ h1)
    · exact ih _ _ _ _ _ h
  | loop c ih =>
    intro τ σ e τ' σ' h
    simp only [evalC] at h
    have key : ∀ (m : Nat) (τ : Tmps) (σ : AHeap), loopN m (evalC cf n c) τ σ = some (e, τ', σ') → σ.size ≤ σ'.size := by
      intro m
      induction m with
      | zero => intro τ σ h; simp [loopN] at h
      | succ m ihm =>
        intro τ σ h
        simp only [loopN] at h
        split at h
        · rename_i h1
          exact Nat.le_trans (ih _ _ _ _ _ h1) (ihm _ _ h)
        · exact ih _ _ _ _ _ h
    exact key n τ σ h
  | strRange pre x t7 t8 k post c ih =>
    intro τ σ e τ' σ' h
    simp only [evalC] at h
    split at h
    · rename_i τ1 σ1 h1
      split at h
      · rename_i s hs
        have key : ∀ (m pos : Nat) (τ : Tmps) (σ : AHeap) (e : AExit) (τ' : Tmps) (σ' : AHeap), strLoop s σ1.size t7 t8 (fun τ σ => match evalOps cf post τ σ with | some (τ', σ') => evalC cf n c τ' σ' | none => none) m pos τ σ = some (e, τ', σ') → σ.size ≤ σ'.size := by
          have body : ∀ (τ : Tmps) (σ : AHeap) (e : AExit) (τ' : Tmps) (σ' : AHeap), (match evalOps cf post τ σ with | some (τ', σ') => evalC cf n c τ' σ' | none => none) = some (e, τ', σ') → σ.size ≤ σ'.size := by
            intro τ σ e τ' σ' h
            split at h
            · rename_i h2
              exact Nat.le_trans (evalOps_size hcf _ _ _ _ _ h2) (ih _ _ _ _ _ h)
            · cases h
          intro m
          induction m with
          | zero => intro pos τ σ e τ' σ' h; simp [strLoop] at h
          | succ m ihm =>
            intro pos τ σ e τ' σ' h
            simp only [strLoop] at h
            split at h
            · rw [Bool.cond_eq_ite] at h
              split at h
              · rw [Bool.cond_eq_ite] at h
                split at h
                · split at h
                  · rename_i h2
                    exact Nat.le_trans (body _ _ _ _ _ h2) (ihm _ _ _ _ _ _ h)
                  · exact body _ _ _ _ _ h
                · split at h
                  · cases h
                  · exact body _ _ _ _ _ h
              · cases h
            · cases h
        have h2 := evalOps_size hcf _ _ _ _ _ h1
        have h3 : σ1.size ≤ σ1.skip.size := by rw [AHeap.size_skip]; omega
        generalize hq : strLoop s σ1.size t7 t8 _ n 0 _ _ = q at h
        unfold leave at h
        split at h
        · rename_i hq'
          rw [Bool.cond_eq_ite] at h
          split at h <;> (simp only [Option.some.injEq, Prod.mk.injEq] at h; obtain ⟨_, _, rfl⟩ := h; have := key _ _ _ _ _ _ _ hq; omega)
        · rw [← hq] at h
          have := key _ _ _ _ _ _ _ h
          omega
      · cases h
    · cases h

theorem stepF_size {cf : CallF} (hcf : SizeF cf) (A : AProg) (n : Nat) : SizeF (stepF cf A n) := by
  intro f args σ v σ' h
  unfold stepF at h
  split at h
  · cases h
  · split at h
    · rename_i h1
      split at h
      · simp only [Option.some.injEq, Prod.mk.injEq] at h
        obtain ⟨_, rfl⟩ := h
        exact evalC_size hcf n _ _ _ _ _ _ h1
      · cases h
    · rename_i h1
      split at h
      · simp only [Option.some.injEq, Prod.mk.injEq] at h
        obtain ⟨_, rfl⟩ := h
        exact evalC_size hcf n _ _ _ _ _ _ h1
      · cases h
    · cases h

theorem evalF_size (A : AProg) : ∀ n, SizeF (evalF A n)
  | 0 => fun f args σ v σ' h => by simp [evalF] at h
  | n + 1 => stepF_size (evalF_size A n) A n

end Go.Bx

namespace Go.Bx
variable {P : Program}

def TRel (φ : Phi) (τ : Tmps) (tmps : Array Value) : Prop := ∀ t, VRel φ (τ.at t) (tmps.getD t undef)

theorem TRel.mono {φ φ' : Phi} {τ : Tmps} {tmps : Array Value} (h : TRel φ τ tmps) (hl : Le φ φ') : TRel φ' τ tmps := fun t => (h t).mono hl

theorem at_set (τ : Tmps) (d : Nat) (v : Value) (t : Nat) : Tmps.at (τ.set d (some v)) t = if t = d then v else τ.at t := by
  unfold Tmps.at
  rw [T.get_set]
  by_cases h : t = d <;> simp [h]

theorem getD_set (tmps : Array Value) (d : Nat) (v : Value) (t : Nat) (hd : d < tmps.size) : (tmps.setIfInBounds d v).getD t undef = if t = d then v else tmps.getD t undef := by
  by_cases h : t = d
  · subst h; simp [hd]
  · simp [h, Array.getElem?_setIfInBounds_ne (Ne.symm h)]

theorem TRel.put {φ : Phi} {τ : Tmps} {a : Act} {dst : Option Tmp} {v v' : Value} (h : TRel φ τ a.tmps) (hv : VRel φ v v') (hd : ∀ d, dst = some d → d < a.tmps.size) : TRel φ (putA τ dst v) (a.put dst v').tmps := by
  cases dst with
  | none => exact h
  | some d =>
    intro t
    simp only [putA, Act.put, at_set, getD_set _ _ _ _ (hd d rfl)]
    split
    · exact hv
    · exact h t

theorem put_size (a : Act) (dst : Option Tmp) (v : Value) : (a.put dst v).tmps.size = a.tmps.size := by cases dst <;> simp [Act.put]
theorem put_defers' (a : Act) (dst : Option Tmp) (v : Value) : (a.put dst v).defers = a.defers := by cases dst <;> rfl

theorem opd_rel {φ : Phi} {τ : Tmps} {a : Act} (h : TRel φ τ a.tmps) (x : Operand) (hx : okOpd x = true) : VRel φ (opd τ x) (a.eval x) := by
  cases x with
  | tmp t => exact h t
  | const v => exact closed_rel φ hx
  | global g => simp [okOpd] at hx
  | func f => exact .func f .nil .nil

theorem wanted_rel {φ : Phi} {τ : Tmps} {a : Act} {ops : Array Oper} {o : Oper} (h : ∀ j w d, o.guard = some (j, w) → dstOf ops.toList j = some d → VRel φ (τ.at d) (a.tmps.getD d undef)) :
    ∀ b, wantedA τ (o.guard.map fun (j, w) => (dstOf ops.toList j, w)) = some b → Region.wanted o (yielded ops a.tmps) = b := by
  intro bb hbb
  unfold Region.wanted
  cases hg : o.guard with
  | none => rw [hg] at hbb; simpa [wantedA] using hbb
  | some p =>
    obtain ⟨j, want⟩ := p
    rw [hg] at hbb
    simp only [Option.map_some] at hbb
    have hd : dstOf ops.toList j = (ops[j]?).bind (·.dst) := by simp [dstOf]
    cases hdst : dstOf ops.toList j with
    | none =>
      have : yielded ops a.tmps j = none := by unfold yielded; rw [← hd, hdst]; rfl
      rw [hdst] at hbb
      simp only [wantedA, Option.some.injEq] at hbb
      simp [this, ← hbb]
    | some d =>
      have hr := h j want d hg hdst
      rw [hdst] at hbb
      simp only [wantedA] at hbb
      have hy : yielded ops a.tmps j = (match a.tmps.getD d undef with | .bool b => some b | _ => none) := by
        unfold yielded
        rw [← hd, hdst]
        simp only [Option.bind_some]
        by_cases hlt : d < a.tmps.size
        · simp [hlt]
          cases a.tmps[d] <;> rfl
        · simp [hlt, undef]
      show (yielded ops a.tmps j == some want) = bb
      rw [hy]
      generalize τ.at d = x at hr hbb
      generalize a.tmps.getD d undef = y at hr
      cases hr <;> simp only [Option.some.injEq, reduceCtorEq] at hbb <;> first | (rw [← hbb]; simp; done) | (rename_i hff; cases hff <;> (rw [← hbb]; simp))

theorem compOper_spec {ops : List Oper} {nt : Nat} {o : Oper} {c : AOper} (h : compOper P ops nt o = some c) :
    compOp P o.op = some c.op ∧ (∀ x ∈ o.op.operands.toList, okOpd x = true) ∧ (∀ d, o.dst = some d → d < nt) ∧ c.dst = o.dst ∧ c.guard = o.guard.map fun (j, w) => (dstOf ops j, w) := by
  unfold compOper at h
  split at h
  · rename_i op hop
    split at h
    · rename_i hb
      cases h
      simp only [Bool.and_eq_true, List.all_eq_true] at hb
      refine ⟨hop, hb.1, fun d hd => ?_, rfl, rfl⟩
      have := hb.2
      rw [hd] at this
      simpa [okDst, Nat.blt_eq] using this
    · cases h
  · cases h

theorem evalOps_tail {cf : CallF} (hcf : SndF P cf) {ops : Array Oper} {nt : Nat} {Q : Exit → Act → World → Prop} (tail : List Nat) : ∀ (m k : Nat), k + m ≤ ops.size → ∀ (cs : List AOper), compOpers P ops.toList nt ((ops.toList.drop k).take m) = some cs →
    ∀ (τ : Tmps) (σ : AHeap) (τ' : Tmps) (σ' : AHeap), evalOps cf cs τ σ = some (τ', σ') → ∀ (φ : Phi) (a : Act) (w : World), R P φ σ w → TRel φ τ a.tmps → nt ≤ a.tmps.size →
    (∀ φ' a' w', Post P φ σ w φ' σ' w' → TRel φ' τ' a'.tmps → nt ≤ a'.tmps.size → a'.defers = a.defers → wpOps P ops Q tail a' w') → wpOps P ops Q (List.range' k m ++ tail) a w
  | 0, k, hk, cs, hc, τ, σ, τ', σ', he, φ, a, w, hR, hT, hs, hQ => by
    rw [List.take_zero] at hc
    simp only [compOpers, Option.some.injEq] at hc
    subst hc
    simp only [evalOps, Option.some.injEq, Prod.mk.injEq] at he
    obtain ⟨rfl, rfl⟩ := he
    exact hQ φ a w (.refl hR) hT hs rfl
  | m + 1, k, hk, cs, hc, τ, σ, τ', σ', he, φ, a, w, hR, hT, hs, hQ => by
    have hlt : k < ops.size := by omega
    have hd : ops.toList.drop k = ops[k] :: ops.toList.drop (k + 1) := by
      rw [List.drop_eq_getElem_cons (by simpa using hlt)]; simp
    rw [hd, List.take_succ_cons] at hc
    simp only [compOpers] at hc
    split at hc
    · rename_i c rest hco hcr
      cases hc
      obtain ⟨hop, hok, hdst, hcd, hcg⟩ := compOper_spec hco
      rw [List.range'_succ, List.cons_append]
      have hget : ops[k]? = some ops[k] := by simp [hlt]
      have hw := wanted_rel (φ := φ) (τ := τ) (a := a) (ops := ops) (o := ops[k]) (fun j w d _ _ => hT d)
      rw [← hcg] at hw
      simp only [evalOps] at he
      cases hwa : wantedA τ c.guard with
      | none => simp [hwa] at he
      | some bw =>
      have hw2 := hw bw hwa
      simp only [wpOps, hget, hw2]
      cases bw with
      | false =>
        simp only [hwa] at he
        rw [if_neg (by simp)]
        rw [hcd] at he
        refine evalOps_tail hcf tail m (k + 1) (by omega) rest hcr _ σ τ' σ' he φ _ w hR (hT.put (undef_rel φ) (fun d e => Nat.lt_of_lt_of_le (hdst d e) hs)) (by rw [put_size]; exact hs) ?_
        intro φ' a' w' hp ht hsz hdf
        exact hQ φ' a' w' hp ht hsz (by rw [hdf, put_defers'])
      | true =>
        simp only [hwa] at he
        rw [if_pos rfl]
        cases h2 : op2 cf (opd τ) σ c.op with
        | none => simp [h2] at he
        | some p =>
          obtain ⟨v, σ1⟩ := p
          simp only [h2] at he
          refine .inl (op2_sound hcf hop (fun x hx => opd_rel hT x (hok x hx)) hR h2 ?_)
          intro φ1 w1 v' hp1 hv
          rw [hcd] at he
          refine evalOps_tail hcf tail m (k + 1) (by omega) rest hcr _ σ1 τ' σ' he φ1 _ w1 hp1.rel ((hT.mono hp1.le).put hv (fun d e => Nat.lt_of_lt_of_le (hdst d e) hs)) (by rw [put_size]; exact hs) ?_
          intro φ' a' w' hp ht hsz hdf
          exact hQ φ' a' w' (hp1.trans hp) ht hsz (by rw [hdf, put_defers'])
    · cases hc

theorem evalOps_sound {cf : CallF} (hcf : SndF P cf) {ops : Array Oper} {nt : Nat} {Q : Exit → Act → World → Prop} (m k : Nat) (hk : k + m = ops.size) (cs : List AOper) (hc : compOpers P ops.toList nt (ops.toList.drop k) = some cs)
    (τ : Tmps) (σ : AHeap) (τ' : Tmps) (σ' : AHeap) (he : evalOps cf cs τ σ = some (τ', σ')) (φ : Phi) (a : Act) (w : World) (hR : R P φ σ w) (hT : TRel φ τ a.tmps) (hs : nt ≤ a.tmps.size)
    (hQ : ∀ φ' a' w', Post P φ σ w φ' σ' w' → TRel φ' τ' a'.tmps → nt ≤ a'.tmps.size → a'.defers = a.defers → Q .normal a' w') : wpOps P ops Q (List.range' k m) a w := by
  have := evalOps_tail (ops := ops) hcf (Q := Q) [] m k (by omega) cs (by rw [List.take_of_length_le (by simp; omega)]; exact hc) τ σ τ' σ' he φ a w hR hT hs hQ
  simpa using this

end Go.Bx

namespace Go.Bx
variable {P : Program}

/-! ### The Boolean equality -/

theorem addrEq_eq {a b : Addr} (h : addrEq a b = true) : a = b := by
  obtain ⟨b1, o1, s1⟩ := a
  obtain ⟨b2, o2, s2⟩ := b
  simp only [addrEq, Bool.and_eq_true] at h
  obtain ⟨⟨h1, h2⟩, h3⟩ := h
  have h1 := Nat.eq_of_beq_eq_true h1
  have h2 := Nat.eq_of_beq_eq_true h2
  subst h1; subst h2
  cases s1 <;> cases s2 <;> simp at h3
  · rfl
  · rw [h3]

theorem valEq0_eq {a b : Value} (h : valEq0 a b = true) : a = b := by
  unfold valEq0 at h
  split at h
  · simpa using h
  · simp at h; rw [h.1, h.2]
  · rename_i x y
    have : x.data = y.data := Array.ext' (by simpa using h)
    cases x; cases y; simp at this; rw [this]
  · rfl
  · rw [addrEq_eq h]
  · simp only [Bool.and_eq_true] at h; rw [Nat.eq_of_beq_eq_true h.1, Nat.eq_of_beq_eq_true h.2]
  · simp only [Bool.and_eq_true] at h; rw [addrEq_eq h.1.1, Nat.eq_of_beq_eq_true h.1.2, Nat.eq_of_beq_eq_true h.2]
  · rfl
  · rfl
  · simp only [Bool.and_eq_true, Array.isEmpty_iff] at h
    obtain ⟨⟨h1, rfl, rfl⟩, rfl, rfl⟩ := h
    rw [Nat.eq_of_beq_eq_true h1]
  · cases h

theorem valEq_eq {a b : Value} (h : valEq a b = true) : a = b := by
  unfold valEq at h
  split at h
  · simp only [Bool.and_eq_true] at h
    rw [Nat.eq_of_beq_eq_true h.1, valEq0_eq h.2]
  · exact valEq0_eq h

theorem valsEq_eq : ∀ {a b : List Value}, valsEq a b = true → a = b
  | [], [], _ => rfl
  | [], _ :: _, h => by simp [valsEq] at h
  | _ :: _, [], h => by simp [valsEq] at h
  | x :: a, y :: b, h => by
    simp only [valsEq, Bool.and_eq_true] at h
    rw [valEq_eq h.1, valsEq_eq h.2]

theorem objEq_eq {a b : Option AObj} (h : objEq a b = true) : a = b := by
  unfold objEq at h
  split at h
  · rename_i x y
    simp only [Bool.and_eq_true] at h
    obtain ⟨⟨h1, h2⟩, h3⟩ := h
    obtain ⟨c1, e1, w1⟩ := x
    obtain ⟨c2, e2, w2⟩ := y
    simp at h3
    rw [show c1 = c2 from valsEq_eq h1, show e1 = e2 from Nat.eq_of_beq_eq_true h2, h3]
  · cases h

theorem drawnOk_spec {σ : AHeap} {hs : List (Nat × AHeap × AHeap)} {ids : List (Nat × List Nat)} (h : drawnOk σ hs ids = true) : ∀ i ∈ ids, i.1 < σ.size ∧ ∀ g ∈ hs, g.1 ∈ i.2 → g.2.2.get i.1 = g.2.1.get i.1 := by
  intro i hi
  have := List.all_eq_true.1 h i hi
  simp only [Bool.and_eq_true, List.all_eq_true] at this
  refine ⟨by simpa [Nat.blt_eq] using this.1, fun g hg hgi => objEq_eq ?_⟩
  have h1 := this.2 g hg
  simpa [hgi] using h1

/-! ### The run in text order -/

structure Trace (cf : Nat → CallF) (cs : List AOper) (k : Nat) (st : Nat → Tmps × AHeap) (hs : List (Nat × AHeap × AHeap)) (ids : List (Nat × List Nat)) : Prop where
  step : ∀ i c, cs[i]? = some c →
    (wantedA (st i).1 c.guard = some true ∧ ∃ v, op2 (cf (k + i)) (opd (st i).1) (st i).2 c.op = some (v, (st (i + 1)).2) ∧ (st (i + 1)).1 = putA (st i).1 c.dst v ∧
      (isWriter c.op = true → (k + i, (st i).2, (st (i + 1)).2) ∈ hs) ∧ (chkOf (opd (st i).1) c ≠ [] → (loadsAt (opd (st i).1) c.op, chkOf (opd (st i).1) c) ∈ ids ∧ chkFine (chkOf (opd (st i).1) c) (st i).2 (loadsAt (opd (st i).1) c.op) = true)) ∨
    (wantedA (st i).1 c.guard = some false ∧ (st (i + 1)).2 = (st i).2 ∧ (st (i + 1)).1 = putA (st i).1 c.dst undef)

theorem trace_of {cf : Nat → CallF} : ∀ (k : Nat) (cs : List AOper) (τ : Tmps) (σ : AHeap) (hs : List (Nat × AHeap × AHeap)) (ids : List (Nat × List Nat)) (τ' : Tmps) (σ' : AHeap) (hs' : List (Nat × AHeap × AHeap)) (ids' : List (Nat × List Nat)), evalOpsD cf k cs τ σ hs ids = some (τ', σ', hs', ids') →
    ∃ st, st 0 = (τ, σ) ∧ st cs.length = (τ', σ') ∧ Trace cf cs k st hs' ids' ∧ (∀ g ∈ hs, g ∈ hs') ∧ (∀ i ∈ ids, i ∈ ids')
  | k, [], τ, σ, hs, ids, τ', σ', hs', ids', h => by
    simp only [evalOpsD, Option.some.injEq, Prod.mk.injEq] at h
    obtain ⟨rfl, rfl, rfl, rfl⟩ := h
    exact ⟨fun _ => (τ, σ), rfl, rfl, ⟨fun i c hc => by simp at hc⟩, fun _ h => h, fun _ h => h⟩
  | k, o :: cs, τ, σ, hs, ids, τ', σ', hs', ids', h => by
    simp only [evalOpsD] at h
    cases hw : wantedA τ o.guard with
    | none => simp [hw] at h
    | some bw => cases bw with
    | true =>
      simp only [hw] at h
      cases h2 : op2 (cf k) (opd τ) σ o.op with
      | none => simp [h2] at h
      | some p =>
        obtain ⟨v, σ1⟩ := p
        simp only [h2] at h
        rw [Bool.cond_eq_ite] at h
        split at h
        · rename_i hfine
          obtain ⟨st, h0, hn, htr, hh, hi⟩ := trace_of (k + 1) cs _ _ _ _ _ _ _ _ h
          refine ⟨fun i => if i = 0 then (τ, σ) else st (i - 1), rfl, by simpa using hn, ⟨fun i c hc => ?_⟩, fun g hg => hh g ?_, fun i hii => hi i ?_⟩
          · cases i with
            | zero =>
              simp at hc; subst hc
              refine .inl ⟨hw, v, ?_, ?_, ?_, ?_⟩
              · simp [h0, h2]
              · simp [h0]
              · intro hwr; simp only [Nat.zero_add, Nat.add_zero, Nat.one_ne_zero, if_false, if_true, Nat.sub_self, h0]
                exact hh _ (by simp [hwr])
              · intro hck
                refine ⟨hi _ ?_, by simpa using hfine⟩
                have : (chkOf (opd τ) o).isEmpty = false := by cases ho : chkOf (opd τ) o with | nil => exact absurd ho hck | cons _ _ => rfl
                simp [this]
            | succ i =>
              have := htr.step i c (by simpa using hc)
              simpa [Nat.add_assoc, Nat.add_comm 1 i] using this
          · cases isWriter o.op <;> simp [hg]
          · cases (chkOf (opd τ) o).isEmpty <;> simp [hii]
        · cases h
    | false =>
      simp only [hw] at h
      obtain ⟨st, h0, hn, htr, hh, hi⟩ := trace_of (k + 1) cs _ _ _ _ _ _ _ _ h
      refine ⟨fun i => if i = 0 then (τ, σ) else st (i - 1), rfl, by simpa using hn, ⟨fun i c hc => ?_⟩, hh, hi⟩
      cases i with
      | zero =>
        simp at hc; subst hc
        exact .inr ⟨hw, by simp [h0], by simp [h0]⟩
      | succ i =>
        have := htr.step i c (by simpa using hc)
        simpa [Nat.add_assoc, Nat.add_comm 1 i] using this

/-! ### Operations that neither call nor write -/

def plainOp (op : AOp) : Bool := !isWriter op

/-- A load out of the interpreter's heap. -/
def heapLoad (ρ : Operand → Value) : AOp → Bool
  | .load _ x => (match ρ x with | .pointer (some _) => true | _ => false)
  | _ => false

/-- An operation that is no writer does the same in every heap of the same size that reads alike where it loads. -/
theorem op_indep {ρ : Operand → Value} {σ τ : AHeap} {op : AOp} {v : Value} {σ' : AHeap} (hw : isWriter op = false) (h : op1 ρ σ op = some (v, σ')) (hs : τ.size = σ.size)
    (hl : heapLoad ρ op = true → (τ.get (loadsAt ρ op)).map (·.cells) = (σ.get (loadsAt ρ op)).map (·.cells)) :
    (σ' = σ ∧ op1 ρ τ op = some (v, τ)) ∨ (∃ ob, σ' = σ.push ob ∧ op1 ρ τ op = some (v, τ.push ob) ∧ ob.own = true) := by
  cases op with
  | store => simp [isWriter] at hw
  | append => simp [isWriter] at hw
  | copy => simp [isWriter] at hw
  | call => simp [isWriter] at hw
  | invoke => simp [isWriter] at hw
  | load sz x =>
    left
    simp only [heapLoad, loadsAt] at hl
    simp only [op1] at h ⊢
    split at h
    · rename_i a ha
      simp only [ha] at hl
      have hl := hl trivial
      have hrd : τ.read sz a = σ.read sz a := by
        unfold AHeap.read AHeap.cell AHeap.cells
        cases h1 : τ.get a.block <;> cases h2 : σ.get a.block <;> simp [h1, h2] at hl
        · rfl
        · rename_i x y
          simp only [hl]
      rw [hrd]
      split at h
      · rename_i u hu
        cases h
        exact ⟨rfl, by simp⟩
      · cases h
    · rename_i t nm xs ys hx
      split at h
      · rename_i u hu
        cases h
        exact ⟨rfl, by simp_all⟩
      · cases h
    · cases h
  | alloc e zc =>
    simp only [op1, Option.some.injEq, Prod.mk.injEq] at h ⊢
    obtain ⟨rfl, rfl⟩ := h
    exact .inr ⟨_, rfl, ⟨by rw [hs], rfl⟩, rfl⟩
  | box e x =>
    simp only [op1] at h ⊢
    rw [Bool.cond_eq_ite] at h ⊢
    split at h
    · rename_i hb
      cases h
      exact .inr ⟨_, rfl, by rw [if_pos hb, hs], rfl⟩
    · cases h
  | buildSlice e zc len parts =>
    simp only [op1] at h ⊢
    split at h
    · rename_i cs hc
      cases h
      exact .inr ⟨_, rfl, by simp only [hs], rfl⟩
    · cases h
  | makeSlice e zc b l c =>
    simp only [op1] at h ⊢
    split at h
    · rw [Bool.cond_eq_ite] at h ⊢
      split at h
      · rename_i hb
        cases h
        exact .inr ⟨_, rfl, by rw [if_pos hb, hs], rfl⟩
      · cases h
    · cases h
  | idxAddr len sz x i =>
    left
    cases len <;> simp only [op1] at h ⊢ <;> (split at h <;> first
      | (cases h; done)
      | (split at h <;> first | (cases h; done) | (cases h; exact ⟨rfl, by simp_all⟩)))
  | lenO b x =>
    left
    cases b <;> simp only [op1] at h ⊢ <;> (split at h <;> first | (cases h; done) | (cases h; exact ⟨rfl, by simp_all⟩))
  | tassert x t z ok =>
    left
    simp only [op1] at h ⊢
    split at h
    · rename_i u y hx
      cases hb : Nat.beq u t <;> cases ok <;> simp only [hb, cond_true, cond_false, reduceCtorEq, Option.some.injEq, Prod.mk.injEq] at h ⊢ <;> (obtain ⟨rfl, rfl⟩ := h; simp)
    · cases ok <;> simp only [cond_true, cond_false, reduceCtorEq, Option.some.injEq, Prod.mk.injEq] at h ⊢ <;> (obtain ⟨rfl, rfl⟩ := h; simp)
    · cases h
  | _ =>
    left
    simp only [op1] at h ⊢
    first
      | (cases h; exact ⟨rfl, rfl⟩)
      | (repeat' split at h) <;> first
        | (cases h; done)
        | (cases h; exact ⟨rfl, by simp_all⟩)
        | (rw [Bool.cond_eq_ite] at h; split at h <;> first | (cases h; done) | (cases h; exact ⟨rfl, by simp_all⟩))
        | skip

end Go.Bx

namespace Go.Bx
variable {P : Program}

/-! ### The masks -/

theorem rev_ind {α : Type} {p : List α → Prop} (nil : p []) (app : ∀ l a, p l → p (l ++ [a])) (l : List α) : p l := by
  have h : ∀ m : List α, p m.reverse := by
    intro m
    induction m with
    | nil => exact nil
    | cons a m ih => rw [List.reverse_cons]; exact app _ _ ih
  have := h l.reverse
  rwa [List.reverse_reverse] at this

theorem masks_append (l : List Oper) (o : Oper) : masks (l ++ [o]) = masks l ++ [o.after.toList.foldl (fun s e => cond (Region.binds .any e) (s ||| (2 ^ e.on ||| (masks l).getD e.on 0)) s) 0] := by
  simp [masks, List.foldl_append]

theorem masks_length : ∀ (l : List Oper), (masks l).length = l.length := by
  intro l
  refine rev_ind (p := fun l => (masks l).length = l.length) rfl (fun l o ih => ?_) l
  rw [masks_append]; simp [ih]

theorem masks_prefix (l m : List Oper) : ∃ r, masks (l ++ m) = masks l ++ r := by
  refine rev_ind (p := fun m => ∃ r, masks (l ++ m) = masks l ++ r) ⟨[], by simp⟩ (fun m o ih => ?_) m
  obtain ⟨r, hr⟩ := ih
  rw [← List.append_assoc, masks_append, hr, List.append_assoc]
  exact ⟨_, rfl⟩

theorem fold_bit (g : Edge → Nat) : ∀ (l : List Edge) (s : Nat) (i : Nat), (l.foldl (fun s e => cond (Region.binds .any e) (s ||| g e) s) s).testBit i = true → s.testBit i = true ∨ ∃ e ∈ l, Region.binds .any e = true ∧ (g e).testBit i = true
  | [], s, i, h => .inl h
  | e :: l, s, i, h => by
    rw [List.foldl_cons] at h
    rcases fold_bit g l _ i h with h1 | ⟨e', he', h1⟩
    · cases hb : Region.binds .any e with
      | false => rw [hb] at h1; exact .inl h1
      | true =>
        rw [hb] at h1
        simp only [cond_true, Nat.testBit_or, Bool.or_eq_true] at h1
        rcases h1 with h1 | h1
        · exact .inl h1
        · exact .inr ⟨e, by simp, hb, h1⟩
    · exact .inr ⟨e', by simp [he'], h1⟩

theorem mask_bit {ops : List Oper} {j : Nat} {o : Oper} (ho : ops[j]? = some o) {i : Nat} (h : ((masks ops).getD j 0).testBit i = true) :
    ∃ e ∈ o.after.toList, Region.binds .any e = true ∧ (i = e.on ∨ (e.on < j ∧ ((masks ops).getD e.on 0).testBit i = true)) := by
  have hlt : j < ops.length := (List.getElem?_eq_some_iff.1 ho).1
  have hsplit : ops = ops.take j ++ [o] ++ ops.drop (j + 1) := by
    have := (List.getElem?_eq_some_iff.1 ho).2
    rw [← this]
    rw [List.append_assoc, List.singleton_append, ← List.drop_eq_getElem_cons hlt, List.take_append_drop]
  have hpre : ∃ r, masks ops = masks (ops.take j) ++ [o.after.toList.foldl (fun s e => cond (Region.binds .any e) (s ||| (2 ^ e.on ||| (masks (ops.take j)).getD e.on 0)) s) 0] ++ r := by
    obtain ⟨r, hr⟩ := masks_prefix (ops.take j ++ [o]) (ops.drop (j + 1))
    rw [← hsplit, masks_append] at hr
    exact ⟨r, hr⟩
  obtain ⟨r, hr⟩ := hpre
  have hlen : (masks (ops.take j)).length = j := by rw [masks_length]; simp; omega
  have hget : (masks ops).getD j 0 = o.after.toList.foldl (fun s e => cond (Region.binds .any e) (s ||| (2 ^ e.on ||| (masks (ops.take j)).getD e.on 0)) s) 0 := by
    rw [hr]
    simp [List.getD, hlen]
  have hlow : ∀ k, k < j → (masks ops).getD k 0 = (masks (ops.take j)).getD k 0 := by
    intro k hk
    rw [hr]
    simp only [List.getD]
    rw [List.append_assoc, List.getElem?_append_left (by omega)]
  rw [hget] at h
  rcases fold_bit (fun e => 2 ^ e.on ||| (masks (ops.take j)).getD e.on 0) _ _ _ h with h1 | ⟨e, he, hb, h1⟩
  · simp at h1
  · refine ⟨e, he, hb, ?_⟩
    simp only [Nat.testBit_or, Bool.or_eq_true] at h1
    rcases h1 with h1 | h1
    · left
      rw [Nat.testBit_two_pow] at h1
      simpa using (of_decide_eq_true (by simpa using h1) : e.on = i).symm
    · right
      by_cases hlt2 : e.on < j
      · exact ⟨hlt2, by rw [hlow _ hlt2]; exact h1⟩
      · simp [List.getD, List.getElem?_eq_none (show (masks (ops.take j)).length ≤ e.on by omega)] at h1

/-- A set that is closed under the edges that bind holds all that comes before. -/
theorem mask_closed {ops : List Oper} {S : Nat → Prop} (hS : ∀ j o, ops[j]? = some o → S j → ∀ e ∈ o.after.toList, Region.binds .any e = true → S e.on) :
    ∀ (j : Nat) (o : Oper), ops[j]? = some o → (∀ e ∈ o.after.toList, Region.binds .any e = true → S e.on) → ∀ i, ((masks ops).getD j 0).testBit i = true → S i := by
  intro j
  induction j using Nat.strongRecOn with
  | _ j ih =>
    intro o ho hd i hi
    obtain ⟨e, he, hb, h⟩ := mask_bit ho hi
    rcases h with rfl | ⟨hlt, h⟩
    · exact hd e he hb
    · have hSe := hd e he hb
      have hjl : j < ops.length := (List.getElem?_eq_some_iff.1 ho).1
      have hoe : ops[e.on]? = some ops[e.on] := List.getElem?_eq_getElem (by omega)
      exact ih e.on hlt _ hoe (fun e' he' hb' => hS e.on _ hoe hSe e' he' hb') i h

/-! ### Restrictions -/

def res (φ : Phi) (n : Nat) : Phi := ⟨fun i => if i < n then φ i else .absent, φ.fz⟩

theorem res_st (φ : Phi) (n i : Nat) : (res φ n) i = if i < n then φ i else .absent := rfl

theorem res_le {φ : Phi} {n m : Nat} (h : n ≤ m) : Le (res φ n) (res φ m) := by
  refine ⟨fun i hi => ?_, FLe.refl _⟩
  left
  simp only [res_st] at *
  by_cases hin : i < n
  · rw [if_pos hin, if_pos (by omega)]
  · simp [hin] at hi
theorem res_le_self {φ : Phi} {n : Nat} : Le (res φ n) φ := by
  refine ⟨fun i hi => ?_, FLe.refl _⟩
  left
  simp only [res_st] at *
  by_cases hin : i < n
  · rw [if_pos hin]
  · simp [hin] at hi
theorem res_mono {φ φ' : Phi} (h : Le φ φ') (n : Nat) : Le (res φ n) (res φ' n) := by
  refine ⟨fun i hi => ?_, h.fz⟩
  simp only [res_st] at *
  by_cases hin : i < n
  · simp only [hin, if_true] at hi ⊢
    exact h i hi
  · simp [hin] at hi

/-- What stands in two relations stands in the one, restricted to where the other speaks. -/
def cap (φ φ0 : Phi) : Phi := ⟨fun i => match φ0 i with | .absent => .absent | _ => φ i, φ.fz⟩

theorem cap_st (φ φ0 : Phi) (i : Nat) : (cap φ φ0) i = match φ0 i with | .absent => .absent | _ => φ i := rfl

theorem cap_ne {φ φ0 : Phi} {i : Nat} (h : φ0 i ≠ .absent) : cap φ φ0 i = φ i := by
  simp only [cap_st]

theorem ARel.dom {φ : Phi} {a a' : Addr} (h : ARel φ a a') : φ a.block ≠ .absent := by
  unfold ARel at h
  intro e
  simp [e] at h

theorem ARel.cap {φ φ0 : Phi} {a a' : Addr} (h : ARel φ a a') (h0 : φ0 a.block ≠ .absent) : ARel (cap φ φ0) a a' := by
  unfold ARel at *
  rw [cap_ne h0]; exact h
theorem FlagRel.cap {φ φ0 : Phi} {a a' : Addr} {c : Nat} (h : FlagRel φ a a' c) (h0 : φ0 a.block ≠ .absent) : FlagRel (cap φ φ0) a a' c := by
  unfold FlagRel at *
  rw [cap_ne h0]; exact h
theorem FlagRel.dom {φ : Phi} {a a' : Addr} {c : Nat} (h : FlagRel φ a a' c) : φ a.block ≠ .absent := by
  unfold FlagRel at h
  intro e
  simp [e] at h

mutual
theorem VRel.cap {φ φ0 : Phi} : ∀ {v v' v'' : Value}, VRel φ v v' → VRel φ0 v v'' → VRel (Bx.cap φ φ0) v v'
  | _, _, _, .bool b, _ => .bool b
  | _, _, _, .int k n, _ => .int k n
  | _, _, _, .string s, _ => .string s
  | _, _, _, .ptrN, _ => .ptrN
  | _, _, _, .ptr h, .ptr h0 => .ptr (h.cap h0.dom)
  | _, _, _, .slcN, _ => .slcN
  | _, _, _, .slc h0 hc h1, .slc g0 gc g1 => .slc (by
      rcases h0 with h0 | h0
      · exact .inl h0
      · rcases g0 with g0 | g0
        · exact .inl g0
        · exact .inr (h0.cap g0.dom)) hc (fun e => (h1 e).cap (g1 e).dom)
  | _, _, _, .func f hx hy, .func _ gx gy => .func f (VsRel.cap hx gx) (VsRel.cap hy gy)
  | _, _, _, .nilFunc, _ => .nilFunc
  | _, _, _, .nilIface, _ => .nilIface
  | _, _, _, .iface t h, .iface _ g => .iface t (VRel.cap h g)
  | _, _, _, .agg h1 h, .agg _ g => .agg h1 (VsRel.cap h g)
  | _, _, _, .tuple h, .tuple g => .tuple (VsRel.cap h g)
  | _, _, _, .top v, _ => .top v
  | _, _, _, .bvs h, _ => .bvs h
  | _, _, _, .bvp h, _ => .bvp h
theorem VsRel.cap {φ φ0 : Phi} : ∀ {l l' l'' : List Value}, VsRel φ l l' → VsRel φ0 l l'' → VsRel (Bx.cap φ φ0) l l'
  | _, _, _, .nil, _ => .nil
  | _, _, _, .cons h hs, .cons g gs => .cons (VRel.cap h g) (VsRel.cap hs gs)
end

theorem cap_le_res {φ φ0 : Phi} {n : Nat} (h : ∀ i, n ≤ i → φ0 i = .absent) : Le (Bx.cap φ φ0) (res φ n) := by
  refine ⟨fun i hi => ?_, FLe.refl _⟩
  left
  simp only [cap_st, res_st] at *
  by_cases hin : i < n
  · simp only [hin, if_true]
    split
    · rename_i he; simp [he] at hi
    · rfl
  · simp [h i (by omega)] at hi

/-! ### A heap with given contents -/

def mkHeap (g : Nat → Option AObj) : Nat → AHeap
  | 0 => ⟨.nil, 0⟩
  | n + 1 => ⟨(mkHeap g n).t.set n (g n), n + 1⟩

theorem mkHeap_size (g : Nat → Option AObj) : ∀ n, (mkHeap g n).size = n
  | 0 => rfl
  | n + 1 => rfl
theorem mkHeap_get (g : Nat → Option AObj) : ∀ n i, (mkHeap g n).get i = if i < n then g i else none
  | 0, i => by simp [mkHeap, AHeap.get, T.get]
  | n + 1, i => by
    have ih := mkHeap_get g n i
    unfold AHeap.get at ih
    simp only [mkHeap, AHeap.get, T.get_set, ih]
    by_cases h : i = n
    · subst h; simp
    · by_cases h2 : i < n
      · simp [h, h2]; omega
      · simp [h, h2]; omega

end Go.Bx

