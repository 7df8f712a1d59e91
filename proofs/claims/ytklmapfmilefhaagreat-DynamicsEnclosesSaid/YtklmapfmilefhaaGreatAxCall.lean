/-
  AX, PART 12: calls and regions in text order.
-/
import Derived.Test.YtklmapfmilefhaaGreatAxOp8
import Derived.Scope
import Derived.LoopN
set_option linter.unusedSimpArgs false
set_option linter.unusedVariables false
set_option linter.unusedSectionVars false
namespace Go.Ax
variable {P : Program}

/-- A caller of functions that is true to the model. -/
def SndF (P : Program) (cf : CallF) : Prop := ∀ f args σ v σ', cf f args σ = some (v, σ') →
  (∃ fn c, P.funcs[f]? = some fn ∧ fn.body = some c ∧ fn.name ≠ "runtime.NumGoroutine") ∧ σ.size ≤ σ'.size ∧
  ∀ φ w args', R P φ σ w → VsRel φ args args' → Calls P f args'.toArray w fun e w' => ∃ φ' v', e = .returned v' ∧ VRel φ' v v' ∧ Post P φ σ w φ' σ' w'

theorem run_callFunc {g : FuncId} {fn : Func} {c : Code} (hfn : P.funcs[g]? = some fn) (hbody : fn.body = some c) (hname : fn.name ≠ "runtime.NumGoroutine") (args : Array Value) (w : World) : (callFunc g args).run P w = .ok (.enter g args) w := by
  simp [callFunc, hfn, hname, hbody]

theorem findTab_mem {t : TypeId} {r : FuncId × RecvMode} : ∀ {l : List (TypeId × FuncId × RecvMode)}, findTab t l = some r → (t, r) ∈ l
  | [], h => by simp [findTab] at h
  | (u, q) :: rest, h => by
    simp only [findTab] at h
    rw [Bool.cond_eq_ite] at h
    split at h
    · rename_i hb
      have := Nat.eq_of_beq_eq_true hb
      cases h
      subst this
      exact List.mem_cons_self
    · exact List.mem_cons_of_mem _ (findTab_mem h)

theorem methodTab_spec {name : String} {t : TypeId} {f : FuncId} {mode : RecvMode} (h : (t, f, mode) ∈ methodTab P name) :
    ∃ i m b, P.info? t = some i ∧ i.methods.find? (·.name == name) = some m ∧ m.path.isEmpty = true ∧ m.func = some (f, b) ∧
      ((mode = .direct ∧ ((b = true ∧ ∃ e, P.underlying t = some (.pointer e)) ∨ (b = false ∧ ∃ d, P.underlying t = some d ∧ ∀ e, d ≠ .pointer e))) ∨
       (∃ sz e, mode = .deref sz ∧ b = false ∧ P.underlying t = some (.pointer e) ∧ oneOrAgg P e = some sz)) := by
  unfold methodTab at h
  simp only [List.mem_filterMap, List.mem_range] at h
  obtain ⟨u, _, h⟩ := h
  split at h
  · rename_i i hi
    split at h
    · rename_i m hm
      split at h
      · rename_i hp
        split at h
        · rename_i g hf
          split at h
          · rename_i e hu
            cases h
            exact ⟨i, m, true, hi, hm, hp, hf, .inl ⟨rfl, .inl ⟨rfl, e, hu⟩⟩⟩
          · cases h
        · rename_i g hf
          split at h
          · rename_i e hu
            split at h
            · rename_i sz hs
              cases h
              exact ⟨i, m, false, hi, hm, hp, hf, .inr ⟨sz, e, rfl, rfl, hu, hs⟩⟩
            · cases h
          · rename_i d hn hu
            cases h
            exact ⟨i, m, false, hi, hm, hp, hf, .inl ⟨rfl, .inr ⟨rfl, d, hu, fun e he => hn e he⟩⟩⟩
          · cases h
        · cases h
      · cases h
    · cases h
  · cases h

theorem run_method {name : String} {t : TypeId} {f : FuncId} {mode : RecvMode} (h : (t, f, mode) ∈ methodTab P name) (n : Nat) {φ : Phi} {σ : AHeap} {w : World} (hR : R P φ σ w) {v v' : Value} (hv : VRel φ v v') {u : Value}
    (hm : recvOf σ v mode = some u) :
    ∃ u', (method (n + 1) t v' name).run P w = .ok (f, u') w ∧ VRel φ u u' := by
  obtain ⟨i, m, b, hi, hfm, hp, hf, hcase⟩ := methodTab_spec h
  have hpl : m.path.toList = [] := by simpa [Array.isEmpty_iff] using hp
  rcases hcase with ⟨rfl, hd⟩ | ⟨sz, e, rfl, rfl, hu, hs⟩
  · cases hm
    refine ⟨v', ?_, hv⟩
    rcases hd with ⟨rfl, e, hu⟩ | ⟨rfl, d, hu, hn⟩
    · simp [method, run_info hi, hfm, hpl, follow, hf, receiverAt, run_underlying hu, Place.get]
    · have hrec : (receiverAt t (.val v') false (if m.path.isEmpty then some ((name.splitOn ".").getLastD name) else none)).run P w = .ok v' w := by
        cases d <;> first | exact absurd rfl (hn _) | simp [receiverAt, run_underlying hu, Place.get]
      simp only [method, Sem.run_bind, run_info hi, Result.andThen_ok, hfm, hpl, follow, Sem.run_pure, hf, hrec]
  · obtain ⟨a, rfl, hm⟩ : ∃ a, v = .pointer (some a) ∧ σ.read sz a = some u := by
      simp only [recvOf] at hm
      split at hm
      · exact ⟨_, rfl, hm⟩
      · cases hm
    · cases hv with
      | ptr ha =>
        rename_i a'
        obtain ⟨u', hl, hr⟩ := read_sound hR hs ha hm
        refine ⟨u', ?_, hr⟩
        have hwn : ∀ nm, (Builtin.ssaWrapNilChk_ #[t] t #[.pointer (some a'), strVal "", strVal nm]).run P w = .ok (.pointer (some a')) w := fun nm => rfl
        have hrec : (receiverAt t (.val (.pointer (some a'))) false (if m.path.isEmpty then some ((name.splitOn ".").getLastD name) else none)).run P w = .ok u' w := by
          simp [receiverAt, run_underlying hu, Place.get, hp, hwn, asAddr, hl]
        simp only [method, Sem.run_bind, run_info hi, Result.andThen_ok, hfm, hpl, follow, Sem.run_pure, hf, hrec]

def isCallA : AOp → Bool
  | .call _ _ | .invoke _ _ _ => true
  | _ => false

theorem compOp_isCall {op : Op} {aop : AOp} (hc : compOp P op = some aop) (hn : ∀ c, op = .call c → ∃ b, c.callee = .builtin b) : isCallA aop = false := by
  cases op with
  | call c =>
    obtain ⟨b, hb⟩ := hn c rfl
    obtain ⟨cal, args, ats⟩ := c
    simp only at hb
    subst hb
    cases b <;> simp only [compOp, reduceCtorEq, Option.some.injEq] at hc
    case min => subst hc; rfl
    case max => subst hc; rfl
    all_goals
      split at hc
      · split at hc <;> first
          | cases hc; rfl
          | cases hc; done
          | (simp only [Option.map_eq_some_iff] at hc; obtain ⟨_, _, rfl⟩ := hc; rfl)
          | (split at hc <;> first
            | cases hc; rfl
            | cases hc; done
            | (split at hc <;> first
              | cases hc; done
              | (split at hc <;> cases hc; rfl)))
      · cases hc
  | makeFunc fn a b => cases fn <;> simp only [compOp, Option.some.injEq, reduceCtorEq] at hc; subst hc; rfl
  | slice t x lo hi mx =>
    cases mx with
    | some m => simp [compOp] at hc
    | none =>
      simp only [compOp] at hc
      split at hc <;> first
        | cases hc; rfl
        | cases hc; done
        | (simp only [Option.bind_eq_bind, Option.bind_eq_some_iff, Option.some.injEq] at hc; obtain ⟨_, _, rfl⟩ := hc; rfl)
  | build t parts =>
    simp only [compOp, Option.bind_eq_bind, Option.bind_eq_some_iff] at hc
    obtain ⟨z, _, hc⟩ := hc
    split at hc
    · split at hc
      · simp only [Option.bind_eq_some_iff, Option.some.injEq] at hc; obtain ⟨_, _, rfl⟩ := hc; rfl
      · cases hc
    · simp only [Option.bind_eq_some_iff, Option.some.injEq] at hc; obtain ⟨_, _, _, _, rfl⟩ := hc; rfl
    · cases hc
  | buildSlice t len parts =>
    simp only [compOp] at hc
    split at hc
    · simp only [Option.bind_eq_bind, Option.bind_eq_some_iff] at hc
      obtain ⟨_, _, _, _, hc⟩ := hc
      split at hc
      · simp only [Option.bind_eq_some_iff, Option.some.injEq] at hc; obtain ⟨_, _, rfl⟩ := hc; rfl
      · cases hc
    · cases hc
  | makeSlice t l c =>
    simp only [compOp] at hc
    split at hc
    · simp only [Option.bind_eq_bind, Option.bind_eq_some_iff] at hc
      obtain ⟨_, _, _, _, hc⟩ := hc
      split at hc <;> cases hc
      rfl
    · cases hc
  | index t x i =>
    simp only [compOp] at hc
    split at hc <;> first
      | cases hc; rfl
      | cases hc; done
      | (simp only [Option.bind_eq_bind, Option.bind_eq_some_iff, Option.some.injEq] at hc; obtain ⟨_, _, _, _, rfl⟩ := hc; rfl)
  | _ =>
    simp only [compOp, Option.some.injEq, Option.map_eq_some_iff, reduceCtorEq] at hc <;> first
      | (subst hc; rfl)
      | (obtain ⟨_, _, rfl⟩ := hc; rfl)
      | (split at hc <;> first
        | cases hc; rfl
        | cases hc; done
        | (simp only [Option.map_eq_some_iff] at hc; obtain ⟨_, _, rfl⟩ := hc; rfl)
        | (split at hc <;> first
          | cases hc; rfl
          | cases hc; done
          | (simp only [Option.map_eq_some_iff] at hc; obtain ⟨_, _, rfl⟩ := hc; rfl)
          | (split at hc <;> first
            | cases hc; rfl
            | cases hc; done
            | (split at hc <;> first | cases hc; done | (cases hc; rfl)))))

theorem op2_op1 {cf : CallF} {ρ : Operand → Value} {σ : AHeap} {aop : AOp} (h : isCallA aop = false) : op2 cf ρ σ aop = op1 ρ σ aop := by
  cases aop <;> first | rfl | simp [isCallA] at h

theorem op2_sound {cf : CallF} (hcf : SndF P cf) {o : Oper} {aop : AOp} (hc : compOp P o.op = some aop) {ρ : Operand → Value} {a : Act} {φ : Phi} {σ : AHeap} {w : World} (hx : ∀ x ∈ o.op.operands.toList, VRel φ (ρ x) (a.eval x)) (hR : R P φ σ w)
    {v : Value} {σ' : AHeap} (h : op2 cf ρ σ aop = some (v, σ')) {next : Act → World → Prop} {Q : Exit → Act → World → Prop} (hn : ∀ φ' w' v', Post P φ σ w φ' σ' w' → VRel φ' v v' → next (a.put o.dst v') w') : o.wp P a w next Q := by
  have simple : op1 ρ σ aop = some (v, σ') → o.wp P a w next Q := by
    intro h1
    obtain ⟨φ', w', v', hpost, hv, hrun⟩ := op1_sound (ρ' := a.eval) hc hx hR h1
    unfold Oper.wp
    rcases hrun with hrun | ⟨hrun, rfl⟩
    · rw [hrun]; exact hn φ' w' v' hpost hv
    · rw [hrun]; exact hn φ' w' undef hpost hv
  have callG : ∀ g args args', cf g args σ = some (v, σ') → VsRel φ args args' → (∀ w, (execOp a.eval o).run P w = (callFunc g args'.toArray).run P w) → o.wp P a w next Q := by
    intro g args args' hcall hargs hrun
    obtain ⟨⟨fn, cc, hfn, hbody, hname⟩, _, hcalls⟩ := hcf g args σ v σ' hcall
    unfold Oper.wp
    rw [hrun, run_callFunc hfn hbody hname, Oper.upon_enter]
    refine (hcalls φ w args' hR hargs).mono ?_
    rintro e w' ⟨φ', v', rfl, hv, hpost⟩
    exact hn φ' w' v' hpost hv
  generalize ho : o.op = op at hc hx
  cases op with
  | call c =>
    obtain ⟨cal, args, ats⟩ := c
    cases cal with
    | builtin b =>
      exact simple (by rwa [op2_op1 (compOp_isCall hc (fun c e => by cases e; exact ⟨b, rfl⟩))] at h)
    | value f =>
      simp only [compOp, Option.some.injEq] at hc
      subst hc
      simp only [op2] at h
      split at h
      · rename_i g first captured hf
        have hfr := hx f (by simp [Op.operands, Call.operands])
        rw [hf] at hfr
        generalize hq : a.eval f = fv at hfr
        cases hfr with
        | func _ h1 h2 =>
          rename_i first' captured'
          have hargs : VsRel φ (args.toList.map ρ) (args.toList.map a.eval) := vs_map fun x hxm => hx x (by simp only [Op.operands, Call.operands, Array.toList_append, List.mem_append]; exact .inr hxm)
          refine callG g _ _ h (h1.append (hargs.append h2)) fun w => ?_
          have e1 : (first' ++ args.map a.eval ++ captured') = (first'.toList ++ (args.toList.map a.eval ++ captured'.toList)).toArray := by
            apply Array.ext'; simp
          simp only [execOp, ho, resolve, hq, Deferred.ofValue, Sem.run_bind, Sem.run_pure, Result.andThen_ok, invoke, e1]
      · cases h
    | invoke r name =>
      simp only [compOp, Option.some.injEq] at hc
      subst hc
      simp only [op2] at h
      split at h
      · rename_i t y hr
        have hrr := hx r (by simp [Op.operands, Call.operands])
        rw [hr] at hrr
        generalize hq : a.eval r = rv at hrr
        cases hrr with
        | iface _ hy =>
          rename_i y'
          have hargs : VsRel φ (args.toList.map ρ) (args.toList.map a.eval) := vs_map fun x hxm => hx x (by simp only [Op.operands, Call.operands, Array.toList_append, List.mem_append]; exact .inr hxm)
          have key : ∀ g mode u, findTab t (methodTab P name) = some (g, mode) → recvOf σ y mode = some u → cf g (u :: args.toList.map ρ) σ = some (v, σ') → o.wp P a w next Q := by
            intro g mode u hft hu hcall
            have hmem := findTab_mem hft
            have hlt : ∃ m, P.types.size + Made.depth = m + 1 := ⟨P.types.size + 99, by simp [Made.depth]⟩
            obtain ⟨m, hm⟩ := hlt
            obtain ⟨⟨fn, cc, hfn, hbody, hname⟩, _, hcalls⟩ := hcf g _ σ v σ' hcall
            obtain ⟨u', hrunm, hur⟩ := run_method hmem m hR hy hu
            unfold Oper.wp
            have : (execOp a.eval o).run P w = .ok (.enter g (u' :: args.toList.map a.eval).toArray) w := by
              simp only [execOp, ho, resolve, hq, Sem.run_bind, Sem.run_pure, Result.andThen_ok, invoke]
              have e0 : (#[Value.iface t y'] ++ args.map a.eval)[0]? = some (.iface t y') := by rw [Array.getElem?_append_left (by simp)]; rfl
              generalize (#[Value.iface t y'] ++ args.map a.eval)[0]? = x0 at e0 ⊢
              subst e0
              have e2 : (#[Value.iface t y'] ++ args.map a.eval).extract 1 = (args.toList.map a.eval).toArray := by
                apply Array.ext'
                simp [Array.toList_extract, List.extract_eq_take_drop]
                exact List.take_of_length_le (by simp)
              have e3 : #[u'] ++ (args.toList.map a.eval).toArray = (u' :: args.toList.map a.eval).toArray := by simp
              simp only [callMethod, Sem.run_bind, run_program, Result.andThen_ok, hm, hrunm, e2, e3, run_callFunc hfn hbody hname]
            rw [this, Oper.upon_enter]
            refine (hcalls φ w _ hR (.cons hur hargs)).mono ?_
            rintro e w' ⟨φ', v', rfl, hv, hpost⟩
            exact hn φ' w' v' hpost hv
          split at h
          · rename_i g mode hft
            cases hrd : recvOf σ y mode with
            | none => simp [hrd] at h
            | some u =>
              simp only [hrd] at h
              exact key g mode u hft hrd h
          · cases h
      · cases h
  | _ => exact simple (by rwa [op2_op1 (compOp_isCall hc (fun c e => by cases e))] at h)

end Go.Ax
