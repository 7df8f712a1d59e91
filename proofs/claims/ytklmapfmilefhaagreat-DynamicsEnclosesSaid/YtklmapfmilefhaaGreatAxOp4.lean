/-
  AX, PART 7: addresses, parts, slices, conversions.
-/
import Derived.Test.YtklmapfmilefhaaGreatAxOp3
set_option linter.unusedSimpArgs false
set_option linter.unusedVariables false
set_option linter.unusedSectionVars false
namespace Go.Ax
variable {P : Program}
section
variable {φ : Phi} {σ : AHeap} {w : World} {ρ ρ' : Operand → Value} {o : Oper} {v : Value} {σ' : AHeap}

theorem ARel.add {a a' : Addr} (h : ARel φ a a') (n : Nat) : ARel φ ⟨a.block, a.off + n, none⟩ (a'.add n) := by
  unfold ARel at *
  cases hs : φ a.block with
  | absent => simp [hs] at h
  | dead p => simp only [hs] at h; intro b hb; rw [h b hb, add_eq]
  | live b o k => simp only [hs] at h; subst h; simp only [add_eq, Nat.add_assoc]

theorem ok_un {op : UnOp} {t : TypeId} {x : Operand} (ho : o.op = .unOp op t x) (hx : VRel φ (ρ x) (ρ' x)) (hR : R P φ σ w) (h : op1 ρ σ (.un op x) = some (v, σ')) : OpOk P φ σ w ρ' o v σ' := by
  simp only [op1] at h
  cases hu : unA op (ρ x) with
  | none => simp [hu] at h
  | some u =>
    simp only [hu, Option.some.injEq, Prod.mk.injEq] at h
    obtain ⟨rfl, rfl⟩ := h
    generalize hp : ρ x = a at hu hx
    generalize hq : ρ' x = a' at hx
    unfold unA at hu
    split at hu
    · cases hx; simp at hu; subst hu
      exact .pure hR (.int _ _) (by simp [execOp, ho, hq, Op.unary, Op.intArith])
    · cases hx; simp [intBin] at hu; subst hu
      exact .pure hR (.int _ _) (by simp [execOp, ho, hq, Op.unary, Op.intBits])
    · cases hx; simp at hu; subst hu
      exact .pure hR (.bool _) (by simp [execOp, ho, hq, Op.unary])
    · cases hu

theorem ok_conv {s d : TypeId} {x : Operand} {j k : IntKind} (ho : o.op = .convert s d x) (hs : P.underlying s = some (.int j)) (hd : P.underlying d = some (.int k)) (hx : VRel φ (ρ x) (ρ' x)) (hR : R P φ σ w)
    (h : op1 ρ σ (.conv k x) = some (v, σ')) : OpOk P φ σ w ρ' o v σ' := by
  cases hp : ρ x with
  | int l n =>
    simp only [op1, hp, Option.some.injEq, Prod.mk.injEq] at h
    obtain ⟨rfl, rfl⟩ := h
    rw [hp] at hx
    generalize hq : ρ' x = a' at hx
    cases hx
    exact .pure hR (.int _ _) (by simp [execOp, ho, convert, run_underlying hs, run_underlying hd, hq, Conv.intToInt])
  | _ => simp [op1, hp] at h

theorem run_convert_str {s d : TypeId} (hs : P.underlying s = some .string) (hd : P.underlying d = some .string) {x : Value} {b : ByteArray} (hx : x = .string b) (w : World) : (convert s d x).run P w = .ok x w := by
  subst hx
  simp [convert, run_underlying hs, run_underlying hd]

theorem ok_strMv {s d : TypeId} {x : Operand} (ho : o.op = .convert s d x) (hs : P.underlying s = some .string) (hd : P.underlying d = some .string) (hx : VRel φ (ρ x) (ρ' x)) (hR : R P φ σ w)
    (h : op1 ρ σ (.strMv x) = some (v, σ')) : OpOk P φ σ w ρ' o v σ' := by
  cases hp : ρ x with
  | string b =>
    simp only [op1, hp, Option.some.injEq, Prod.mk.injEq] at h
    obtain ⟨rfl, rfl⟩ := h
    rw [hp] at hx
    generalize hq : ρ' x = a' at hx
    cases hx
    exact .pure hR (.string _) (by simp [execOp, ho, hq, run_convert_str hs hd rfl w])
  | _ => simp [op1, hp] at h

theorem ok_mkI {t : TypeId} {x : Operand} {d : TypeDesc} (ho : o.op = .makeInterface t x) (hd : P.underlying t = some d) (hn : ∀ ms, d ≠ .interface ms) (hx : VRel φ (ρ x) (ρ' x)) (hR : R P φ σ w)
    (h : op1 ρ σ (.mkI t x) = some (v, σ')) : OpOk P φ σ w ρ' o v σ' := by
  simp only [op1, Option.some.injEq, Prod.mk.injEq] at h
  obtain ⟨rfl, rfl⟩ := h
  refine .pure hR (.iface t hx) ?_
  cases d <;> first | exact absurd rfl (hn _) | simp [execOp, ho, Instr.makeInterface, run_underlying hd]

theorem vs_map : ∀ {l : List Operand}, (∀ x ∈ l, VRel φ (ρ x) (ρ' x)) → VsRel φ (l.map ρ) (l.map ρ')
  | [], _ => .nil
  | x :: l, h => .cons (h x (by simp)) (vs_map fun y hy => h y (by simp [hy]))

theorem ok_mkF {f : FuncId} {a b : Array Operand} (ho : o.op = .makeFunc (.func f) a b) (ha : ∀ x ∈ a.toList, VRel φ (ρ x) (ρ' x)) (hb : ∀ x ∈ b.toList, VRel φ (ρ x) (ρ' x)) (hR : R P φ σ w)
    (h : op1 ρ σ (.mkF f a.toList b.toList) = some (v, σ')) : OpOk P φ σ w ρ' o v σ' := by
  simp only [op1, Option.some.injEq, Prod.mk.injEq] at h
  obtain ⟨rfl, rfl⟩ := h
  refine .pure hR (.func f (xs' := a.map ρ') (ys' := b.map ρ') (by simpa using vs_map ha) (by simpa using vs_map hb)) ?_
  simp [execOp, ho, Instr.makeFunc]

theorem ok_fieldAddr {t : TypeId} {x : Operand} {f : Nat} {fs : Array Field} {fl : Field} {s : Nat} (ho : o.op = .fieldAddr t x f) (ht : P.underlying t = some (.struct fs)) (hf : fs[f]? = some fl) (hs : sizeT P fl.type = some s) (hs0 : s ≠ 0)
    (hx : VRel φ (ρ x) (ρ' x)) (hR : R P φ σ w) (h : op1 ρ σ (.fieldAddr fl.offset x) = some (v, σ')) : OpOk P φ σ w ρ' o v σ' := by
  cases hp : ρ x with
  | pointer a =>
    cases a with
    | none => simp [op1, hp] at h
    | some a =>
      simp only [op1, hp, Option.some.injEq, Prod.mk.injEq] at h
      obtain ⟨rfl, rfl⟩ := h
      rw [hp] at hx
      generalize hq : ρ' x = a' at hx
      cases hx with
      | ptr ha => exact .pure hR (.ptr (ha.add _)) (by simp [execOp, ho, Instr.fieldAt, run_underlying ht, hf, hq, Instr.sureAddr, fieldPlace, run_sizeT hs, hs0])
  | _ => simp [op1, hp] at h

theorem run_part {t : TypeId} {sz : Option Nat} (hs : oneOrAgg P t = some sz) {xs ys : Array Value} (h1 : ∀ x ∈ xs.toList, x.oneCell' = true) (hr : VsRel φ xs.toList ys.toList) {off : Nat} {v : Value}
    (h : partA sz xs.toList off = some v) (w : World) : ∃ v', (part t ys off).run P w = .ok v' w ∧ VRel φ v v' := by
  cases sz with
  | none =>
    simp only [partA] at h
    obtain ⟨v', hv', hrel⟩ := hr.get off v h
    rw [Array.getElem?_toList] at hv'
    exact ⟨v', by simp [part, run_isAgg_none hs, hv'], hrel⟩
  | some n =>
    simp only [partA] at h
    cases hb : Nat.ble (off + n) xs.toList.length with
    | false => rw [hb] at h; simp at h
    | true =>
      simp only [hb, cond_true, Option.some.injEq] at h
      subst h
      have : ys.extract off (off + n) = ((ys.toList.drop off).take n).toArray := by
        apply Array.ext'
        simp [Array.toList_extract, List.extract_eq_take_drop]
      refine ⟨.agg (ys.extract off (off + n)), by simp [part, (run_isAgg_some hs w).1, (run_isAgg_some hs w).2], ?_⟩
      rw [this]
      exact .agg (fun x hx => h1 x (List.mem_of_mem_drop (List.mem_of_mem_take (by simpa using hx)))) (by simpa using (hr.drop off).take n)

theorem ok_field {t : TypeId} {x : Operand} {f : Nat} {fs : Array Field} {fl : Field} {sz : Option Nat} (ho : o.op = .field t x f) (ht : P.underlying t = some (.struct fs)) (hf : fs[f]? = some fl) (hs : oneOrAgg P fl.type = some sz)
    (hx : VRel φ (ρ x) (ρ' x)) (hR : R P φ σ w) (h : op1 ρ σ (.field fl.offset sz x) = some (v, σ')) : OpOk P φ σ w ρ' o v σ' := by
  cases hp : ρ x with
  | agg cs =>
    simp only [op1, hp] at h
    cases hc : partA sz cs.toList fl.offset with
    | none => simp [hc] at h
    | some u =>
      simp only [hc, Option.some.injEq, Prod.mk.injEq] at h
      obtain ⟨rfl, rfl⟩ := h
      rw [hp] at hx
      generalize hq : ρ' x = a' at hx
      cases hx with
      | agg h1 hr =>
        obtain ⟨v', hrun, hrel⟩ := run_part hs h1 hr hc w
        exact .pure hR hrel (by simp [execOp, ho, Instr.field, run_underlying ht, hf, hq, asAgg, hrun])
  | _ => simp [op1, hp] at h

theorem ok_idxAddr_slice {t e : TypeId} {x i : Operand} {s : Nat} (ho : o.op = .indexAddr t x i) (ht : P.underlying t = some (.slice e)) (hs : sizeT P e = some s)
    (hx : VRel φ (ρ x) (ρ' x)) (hi : VRel φ (ρ i) (ρ' i)) (hR : R P φ σ w) (h : op1 ρ σ (.idxAddr none s x i) = some (v, σ')) : OpOk P φ σ w ρ' o v σ' := by
  cases hp : ρ x with
  | slice a len fl =>
    cases hj : ρ i with
    | int k j =>
      cases a with
      | none => simp [op1, hp, hj] at h
      | some a =>
        simp only [op1, hp, hj] at h
        split at h
        · rename_i hlt
          simp only [Option.some.injEq, Prod.mk.injEq] at h
          obtain ⟨rfl, rfl⟩ := h
          rw [hp] at hx
          rw [hj] at hi
          generalize hq : ρ' x = a' at hx
          generalize hq2 : ρ' i = b' at hi
          cases hi
          cases hx with
          | slc h0 hc h1 =>
            have ha := h0.resolve_left (by omega)
            exact .pure hR (.ptr (ha.add _)) (by simp [execOp, ho, Instr.indexAt, run_underlying ht, hq, hq2, asIntOf, hlt, run_sizeT hs])
        · cases h
    | _ => cases a <;> simp [op1, hp, hj] at h
  | _ => simp [op1, hp] at h

theorem ok_idxAddr_array {t e : TypeId} {n : Nat} {x i : Operand} {s : Nat} (ho : o.op = .indexAddr t x i) (ht : P.underlying t = some (.array n e)) (hs : sizeT P e = some s)
    (hx : VRel φ (ρ x) (ρ' x)) (hi : VRel φ (ρ i) (ρ' i)) (hR : R P φ σ w) (h : op1 ρ σ (.idxAddr (some n) s x i) = some (v, σ')) : OpOk P φ σ w ρ' o v σ' := by
  cases hp : ρ x with
  | pointer a =>
    cases hj : ρ i with
    | int k j =>
      cases a with
      | none => simp [op1, hp, hj] at h
      | some a =>
        simp only [op1, hp, hj] at h
        split at h
        · rename_i hlt
          simp only [Option.some.injEq, Prod.mk.injEq] at h
          obtain ⟨rfl, rfl⟩ := h
          rw [hp] at hx
          rw [hj] at hi
          generalize hq : ρ' x = a' at hx
          generalize hq2 : ρ' i = b' at hi
          cases hi
          cases hx with
          | ptr ha => exact .pure hR (.ptr (ha.add _)) (by simp [execOp, ho, Instr.indexAt, run_underlying ht, hq, hq2, asIntOf, hlt, run_sizeT hs, Instr.sureAddr])
        · cases h
    | _ => cases a <;> simp [op1, hp, hj] at h
  | _ => simp [op1, hp] at h

theorem ok_idx {t e : TypeId} {n : Nat} {x i : Operand} {s : Nat} {sz : Option Nat} (ho : o.op = .index t x i) (ht : P.underlying t = some (.array n e)) (hs : sizeT P e = some s) (hsz : oneOrAgg P e = some sz)
    (hx : VRel φ (ρ x) (ρ' x)) (hi : VRel φ (ρ i) (ρ' i)) (hR : R P φ σ w) (h : op1 ρ σ (.idx n s sz x i) = some (v, σ')) : OpOk P φ σ w ρ' o v σ' := by
  cases hp : ρ x with
  | agg cs =>
    cases hj : ρ i with
    | int k j =>
      simp only [op1, hp, hj] at h
      split at h
      · rename_i hlt
        cases hc : partA sz cs.toList (j.toNat * s) with
        | none => simp [hc] at h
        | some u =>
          simp only [hc, Option.some.injEq, Prod.mk.injEq] at h
          obtain ⟨rfl, rfl⟩ := h
          rw [hp] at hx
          rw [hj] at hi
          generalize hq : ρ' x = a' at hx
          generalize hq2 : ρ' i = b' at hi
          cases hi
          cases hx with
          | agg h1 hr =>
            obtain ⟨v', hrun, hrel⟩ := run_part hsz h1 hr hc w
            exact .pure hR hrel (by simp [execOp, ho, Instr.index, run_underlying ht, hq, hq2, asIntOf, hlt, run_sizeT hs, hrun])
      · cases h
    | _ => simp [op1, hp, hj] at h
  | _ => simp [op1, hp] at h

theorem ok_idxS {t : TypeId} {x i : Operand} (ho : o.op = .index t x i) (ht : P.underlying t = some .string)
    (hx : VRel φ (ρ x) (ρ' x)) (hi : VRel φ (ρ i) (ρ' i)) (hR : R P φ σ w) (h : op1 ρ σ (.idxS x i) = some (v, σ')) : OpOk P φ σ w ρ' o v σ' := by
  cases hp : ρ x with
  | string s =>
    cases hj : ρ i with
    | int k j =>
      simp only [op1, hp, hj] at h
      split at h
      · rename_i hlt
        cases hc : s.data.toList[j.toNat]? with
        | none => simp [hc] at h
        | some u =>
          simp only [hc, Option.some.injEq, Prod.mk.injEq] at h
          obtain ⟨rfl, rfl⟩ := h
          rw [hp] at hx
          rw [hj] at hi
          generalize hq : ρ' x = a' at hx
          generalize hq2 : ρ' i = b' at hi
          cases hi
          cases hx
          have hs : s[j.toNat]? = some u := by
            rw [Array.getElem?_toList] at hc
            obtain ⟨hlt', he⟩ := Array.getElem?_eq_some_iff.1 hc
            rw [getElem?_pos s j.toNat hlt']
            exact congrArg some he
          exact .pure hR (.int _ _) (by simp [execOp, ho, Instr.index, run_underlying ht, hq, hq2, asIntOf, hlt, hs])
      · cases h
    | _ => simp [op1, hp, hj] at h
  | _ => simp [op1, hp] at h

theorem ok_tassert {x : Operand} {xt t : TypeId} {ok : Bool} {d : TypeDesc} {i : TypeInfo} {z : Value} (ho : o.op = .typeAssert x xt t ok) (hd : P.underlying t = some d) (hn : ∀ ms, d ≠ .interface ms) (hi : P.info? t = some i) (hz : i.zero = some z) (hcl : closedV z = true)
    (hx : VRel φ (ρ x) (ρ' x)) (hR : R P φ σ w) (h : op1 ρ σ (.tassert x t z ok) = some (v, σ')) : OpOk P φ σ w ρ' o v σ' := by
  have hz0 := closed_rel φ hcl
  have hbad : VRel φ (.tuple #[z, .bool false]) (.tuple #[z, .bool false]) := .tuple (.cons hz0 (.cons (.bool _) .nil))
  cases hp : ρ x with
  | iface u y =>
    simp only [op1, hp] at h
    rw [hp] at hx
    generalize hq : ρ' x = a' at hx
    cases hx with
    | iface _ hy =>
      rename_i y'
      by_cases hut : u = t
      · subst hut
        simp only [Nat.beq_refl, cond_true, Option.some.injEq, Prod.mk.injEq] at h
        obtain ⟨rfl, rfl⟩ := h
        cases ok
        · refine .pure hR hy ?_
          cases d <;> first | exact absurd rfl (hn _) | simp [execOp, ho, Instr.typeAssert, run_underlying hd, hq]
        · refine .pure hR (.tuple (.cons hy (.cons (.bool true) .nil)) : VRel φ (.tuple #[y, .bool true]) (.tuple #[y', .bool true])) ?_
          cases d <;> first | exact absurd rfl (hn _) | simp [execOp, ho, Instr.typeAssert, run_underlying hd, hq]
      · rw [beqF hut] at h
        simp only [cond_false] at h
        cases ok
        · simp at h
        · simp only [cond_true, Option.some.injEq, Prod.mk.injEq] at h
          obtain ⟨rfl, rfl⟩ := h
          refine .pure hR hbad ?_
          cases d <;> first | exact absurd rfl (hn _) | simp [execOp, ho, Instr.typeAssert, run_underlying hd, hq, hut, run_zeroV hi hz]
  | nilIface =>
    simp only [op1, hp] at h
    rw [hp] at hx
    generalize hq : ρ' x = a' at hx
    cases hx
    cases ok
    · simp at h
    · simp only [cond_true, Option.some.injEq, Prod.mk.injEq] at h
      obtain ⟨rfl, rfl⟩ := h
      refine .pure hR hbad ?_
      cases d <;> first | exact absurd rfl (hn _) | simp [execOp, ho, Instr.typeAssert, run_underlying hd, hq, run_zeroV hi hz]
  | _ => simp [op1, hp] at h

theorem ok_ext {x : Operand} {i : Nat} (ho : o.op = .extract x i) (hx : VRel φ (ρ x) (ρ' x)) (hR : R P φ σ w) (h : op1 ρ σ (.ext x i) = some (v, σ')) : OpOk P φ σ w ρ' o v σ' := by
  cases hp : ρ x with
  | tuple vs =>
    simp only [op1, hp] at h
    cases hc : vs.toList[i]? with
    | none => simp [hc] at h
    | some u =>
      simp only [hc, Option.some.injEq, Prod.mk.injEq] at h
      obtain ⟨rfl, rfl⟩ := h
      rw [hp] at hx
      generalize hq : ρ' x = a' at hx
      cases hx with
      | tuple hr =>
        obtain ⟨v', hv', hrel⟩ := hr.get i u hc
        rw [Array.getElem?_toList] at hv'
        exact .pure hR hrel (by simp [execOp, ho, Instr.extract, hq, hv'])
  | _ => simp [op1, hp] at h

theorem ok_nilCheck {x : Operand} (ho : o.op = .nilCheck x) (hx : VRel φ (ρ x) (ρ' x)) (hR : R P φ σ w) (h : op1 ρ σ (.nilCheck x) = some (v, σ')) : OpOk P φ σ w ρ' o v σ' := by
  generalize hp : ρ x = a at hx
  generalize hq : ρ' x = a' at hx
  simp only [op1, hp] at h
  split at h
  · cases h
    cases hx with
    | ptr ha => exact .pure hR (.ptr ha) (by simp [execOp, ho, hq])
  · cases h
    cases hx with
    | func f h1 h2 => exact .pure hR (.func _ h1 h2) (by simp [execOp, ho, hq])
  · cases h
    cases hx with
    | iface t h1 => exact .pure hR (.iface _ h1) (by simp [execOp, ho, hq])
  · cases h

end
end Go.Ax
