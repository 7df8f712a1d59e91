/-
  AX, PART 9: min, max, making and building.
-/
import Derived.Test.YtklmapfmilefhaaGreatAxOp5
set_option linter.unusedSimpArgs false
set_option linter.unusedVariables false
set_option linter.unusedSectionVars false
namespace Go.Ax
variable {P : Program}
section
variable {φ : Phi} {σ : AHeap} {w : World} {ρ ρ' : Operand → Value} {o : Oper} {v : Value} {σ' : AHeap}

theorem ok_minmax {b : Builtin} {args : Array Operand} {ats : Array TypeId} {isMax : Bool} (hb : b = if isMax then .max else .min) (ho : o.op = .call { callee := .builtin b, args := args, argTypes := ats }) (hx : ∀ x ∈ args.toList, VRel φ (ρ x) (ρ' x)) (hR : R P φ σ w)
    (h : op1 ρ σ (.minmax isMax args.toList) = some (v, σ')) : OpOk P φ σ w ρ' o v σ' := by
  simp only [op1] at h
  cases hl : args.toList with
  | nil => simp [hl] at h
  | cons x rest =>
    simp only [hl, List.map_cons] at h
    cases hm : minmaxA isMax (ρ x) (rest.map ρ) with
    | none => simp [hm] at h
    | some u =>
      simp only [hm, Option.some.injEq, Prod.mk.injEq] at h
      obtain ⟨rfl, rfl⟩ := h
      have hx0 := hx x (by simp [hl])
      have hxs : VsRel φ (rest.map ρ) (rest.map ρ') := vs_map fun y hy => hx y (by simp [hl, hy])
      have hargs : (args.map ρ').toList = ρ' x :: rest.map ρ' := by simp [hl]
      have hrun : ∀ u' : Value, ((rest.map ρ').foldlM (if isMax then Builtin.max2 else Builtin.min2) (ρ' x)).run P w = .ok u' w → (execOp ρ' o).run P w = .ok (.value u') w := by
        intro u' hu
        subst hb
        cases isMax <;> simp only [Bool.false_eq_true, if_false, if_true] at hu ho <;>
          simp only [execOp, ho, resolve, invoke, builtin, Builtin.min_, Builtin.max_, hargs, hu, Sem.run_bind, Sem.run_pure, Result.andThen_ok]
      rcases minmax_sound isMax _ _ _ _ _ hm hxs hx0 w with ⟨h1, h2, h3⟩ | ⟨⟨k, n, h3⟩, h2⟩
      · subst h3
        exact .pure hR hx0 (hrun _ h1)
      · subst h3
        exact .pure hR (.int _ _) (hrun _ h2)

theorem flatten_get (z : List Value) : ∀ (n i : Nat), i < n * z.length → (List.replicate n z).flatten[i]? = z[i % z.length]?
  | 0, i, h => by omega
  | n + 1, i, h => by
    rw [List.replicate_succ, List.flatten_cons]
    by_cases hi : i < z.length
    · rw [List.getElem?_append_left hi, Nat.mod_eq_of_lt hi]
    · rw [List.getElem?_append_right (by omega), flatten_get z n (i - z.length) (by rw [Nat.add_mul] at h; omega), Nat.mod_eq_sub_mod (by omega : i ≥ z.length)]

theorem zeroRow_eq (z : Array Value) (n : Nat) : (((Array.range (n * z.size)).map fun i => z[i % z.size]!)).toList = (List.replicate n z.toList).flatten := by
  apply List.ext_getElem?
  intro i
  by_cases hi : i < n * z.size
  · have hz : 0 < z.size := by
      rcases Nat.eq_zero_or_pos z.size with h0 | h0
      · rw [h0] at hi; omega
      · exact h0
    rw [flatten_get z.toList n i (by simpa using hi)]
    have hm : i % z.size < z.size := Nat.mod_lt _ hz
    simp [hi, hm]
  · have hl : ((List.replicate n z.toList).flatten).length = n * z.size := by simp
    rw [List.getElem?_eq_none (by simp; omega), List.getElem?_eq_none (by omega)]

theorem range0 (f g : Nat → Value) : (Array.range 0).map f = (Array.range 0).map g := by apply Array.ext <;> simp

theorem ok_makeSlice {t e : TypeId} {l c : Operand} {i : TypeInfo} {z : List Value} (ho : o.op = .makeSlice t l c) (ht : P.underlying t = some (.slice e)) (hi : P.info? e = some i) (hz : zeroOf P e = some z) (hzl : z.length = i.size)
    (hl : VRel φ (ρ l) (ρ' l)) (hc : VRel φ (ρ c) (ρ' c)) (hR : R P φ σ w) (h : op1 ρ σ (.makeSlice e z i.bytes l c) = some (v, σ')) : OpOk P φ σ w ρ' o v σ' := by
  cases hp : ρ l with
  | int ka a =>
    cases hq : ρ c with
    | int kb b =>
      simp only [op1, hp, hq] at h
      rw [Bool.cond_eq_ite] at h
      split at h
      · rename_i hb
        simp only [Option.some.injEq, Prod.mk.injEq] at h
        obtain ⟨rfl, rfl⟩ := h
        simp only [Bool.and_eq_true, decide_eq_true_eq] at hb
        obtain ⟨⟨⟨h0, h1⟩, h2⟩, h3⟩ := hb
        rw [hp] at hl
        rw [hq] at hc
        generalize hp' : ρ' l = a' at hl
        generalize hq' : ρ' c = b' at hc
        cases hl; cases hc
        obtain ⟨i', zv, hi', hzv, hcl, hst, rfl⟩ := zeroOf_spec hz
        obtain rfl : i = i' := Option.some.inj (hi.symm.trans hi')
        simp only [Array.length_toList] at hzl
        obtain ⟨m, rfl⟩ := Int.eq_ofNat_of_zero_le h0
        obtain ⟨n, rfl⟩ := Int.eq_ofNat_of_zero_le (Int.le_trans h0 h1)
        have hmn : m ≤ n := by omega
        have hw : ∀ k : Nat, (k : Int) ≤ 140737488355328 → IntKind.wrap .i64 (k : Int) = (k : Int) := by
          intro k hk
          have : (k : Int) % 2 ^ 64 = k := Int.emod_eq_of_lt (by omega) (by omega)
          simp [IntKind.wrap, IntKind.bits, IntKind.signed]
          omega
        have hbig : ¬ ((281474976710656 : Int) < (i.bytes : Int) * (n : Int)) := by rw [Int.mul_comm]; omega
        have hcells : ((Array.range (n * i.size)).map (fun j => zv.cells[j % zv.cells.size]!)).toList = (List.replicate n zv.cells.toList).flatten := by
          rw [← hzl]; exact zeroRow_eq zv.cells n
        have hones : ∀ u ∈ (List.replicate n zv.cells.toList).flatten, u.oneCell' = true := by
          intro u hu
          obtain ⟨l', hl', hu'⟩ := List.mem_flatten.1 hu
          rw [List.eq_of_mem_replicate hl'] at hu'
          exact closed_one hst hcl u hu'
        have hrel : VsRel φ (List.replicate n zv.cells.toList).flatten (List.replicate n zv.cells.toList).flatten := by
          refine vs_of_all fun u hu => ?_
          obtain ⟨l', hl', hu'⟩ := List.mem_flatten.1 hu
          rw [List.eq_of_mem_replicate hl'] at hu'
          obtain ⟨j, hj⟩ := List.mem_iff_getElem?.1 hu'
          obtain ⟨u', hu'', hr⟩ := (closed_rel φ hcl).cells.get j u hj
          rw [hj] at hu''
          cases hu''
          exact hr
        refine ⟨_, _, _, hR.push hrel hones e ((Array.range (n * i.size)).map (fun j => zv.cells[j % zv.cells.size]!)) ?_ (some n) ?_, slcNew_rel hmn, .inl ?_⟩
        · intro j u hj
          rw [← hcells, Array.getElem?_toList] at hj
          exact hj
        · intro n' e; cases e; simp [Program.cellsOf, hi]
        · have hg : ¬ (((n : Int) < 0 ∨ (m : Int) < 0) ∨ n < m) := by omega
          by_cases hn0 : n * i.size = 0
          · simp [hg, execOp, ho, Instr.makeSlice, run_underlying ht, hp', hq', asInt, asIntOf, run_info hi, hw m (by omega), hw n h3, hbig, run_size hi, hn0, newRow]
            rw [range0]
          · simp [hg, execOp, ho, Instr.makeSlice, run_underlying ht, hp', hq', asInt, asIntOf, run_info hi, hw m (by omega), hw n h3, hbig, run_size hi, hn0, run_zeroV hi hzv, newRow]
      · cases h
    | _ => simp [op1, hp, hq] at h
  | _ => simp [op1, hp] at h

theorem foldl_setAt : ∀ (vs : List Value) (off k : Nat) (cs : Array Value), off + k + vs.length ≤ cs.size →
    ((vs.zipIdx k).foldl (fun cs (p : Value × Nat) => cs.setIfInBounds (off + p.2) p.1) cs).toList = setAt cs.toList (off + k) vs
  | [], off, k, cs, _ => by simp [setAt]
  | v :: vs, off, k, cs, h => by
    simp only [List.length_cons] at h
    rw [List.zipIdx_cons, List.foldl_cons, foldl_setAt vs off (k + 1) _ (by simp; omega)]
    have e := list_seg_step cs.toList (off + k) v vs (by simp; omega)
    simp only [setAt, Array.toList_setIfInBounds, List.length_cons]
    rw [show off + (k + 1) = off + k + 1 by omega, show off + k + (vs.length + 1) = off + k + 1 + vs.length by omega]
    simp only [List.append_assoc] at e
    rw [e, show off + k + (vs.length + 1) = off + k + 1 + vs.length by omega]

theorem fill_sound (place place' : Nat → Option (Nat × Nat)) (hpl : ∀ i p, place i = some p → place' i = some p) : ∀ (ps : List (Nat × Operand)) (qs : List (Nat × Nat × Operand)), partsWith place ps = some qs → (∀ x ∈ ps, VRel φ (ρ x.2) (ρ' x.2)) →
    ∀ (cells : List Value) (cells' : Array Value), VsRel φ cells cells'.toList → (∀ x ∈ cells, x.oneCell' = true) → ∀ out, fillL cells (qs.map fun p => (p.1, p.2.1, ρ p.2.2)) = some out →
    ∃ out', Instr.fill place' cells' (ps.map fun p => (p.1, ρ' p.2)) = some out' ∧ VsRel φ out out'.toList ∧ (∀ x ∈ out, x.oneCell' = true) ∧ out.length = cells.length
  | [], qs, hq, _, cells, cells', hc, h1, out, h => by
    simp only [partsWith, Option.some.injEq] at hq
    subst hq
    simp only [List.map_nil, fillL, Option.some.injEq] at h
    subst h
    exact ⟨cells', rfl, hc, h1, rfl⟩
  | (i, x) :: ps, qs, hq, hx, cells, cells', hc, h1, out, h => by
    simp only [partsWith] at hq
    cases hp : place i with
    | none => simp [hp] at hq
    | some p =>
      obtain ⟨off, s⟩ := p
      cases hr : partsWith place ps with
      | none => simp [hp, hr] at hq
      | some r =>
        simp only [hp, hr, Option.some.injEq] at hq
        subst hq
        simp only [List.map_cons, fillL] at h
        rw [Bool.cond_eq_ite] at h
        split at h
        · rename_i hb
          simp only [Bool.and_eq_true] at hb
          obtain ⟨⟨hb1, hb2⟩, hb3⟩ := hb
          have hb1 := Nat.eq_of_beq_eq_true hb1
          have hb2 := Nat.le_of_ble_eq_true hb2
          have hxr := hx (i, x) (by simp)
          have hlen := hc.length
          simp only [Array.length_toList] at hlen
          have hcl := hxr.cells
          have hsz : (ρ' x).cells.size = s := by have := hcl.length; simp at this; omega
          have hf := foldl_setAt (ρ' x).cells.toList off 0 cells' (by simp; omega)
          obtain ⟨out', ho, hrel, hone, hl⟩ := fill_sound place place' hpl ps r hr (fun y hy => hx y (by simp [hy])) (setAt cells off (ρ x).cells.toList) (((ρ' x).cells.toList.zipIdx 0).foldl (fun cs (p : Value × Nat) => cs.setIfInBounds (off + p.2) p.1) cells')
            (by rw [hf]; exact hc.setAt off hcl) (write_one h1 (cells_one hb3 hxr.agg_one)) out h
          refine ⟨out', ?_, hrel, hone, ?_⟩
          · simp only [List.map_cons, Instr.fill, hpl i _ hp]
            rw [if_neg (by simp [hsz]; omega)]
            rw [← ho]
            congr 1
            rw [← Array.foldl_toList, Array.toList_zipIdx]
          · rw [hl, setAt_length (by simp; omega)]
        · cases h

theorem run_mapM_pure {α β : Type} (f : α → Sem β) (g : α → β) (w : World) : ∀ (l : List α), (∀ x ∈ l, (f x).run P w = .ok (g x) w) → (l.mapM f).run P w = .ok (l.map g) w
  | [], _ => by simp
  | x :: l, h => by
    rw [List.mapM_cons, Sem.run_bind, h x (by simp)]
    simp only [Result.andThen_ok, Sem.run_bind, run_mapM_pure f g w l (fun y hy => h y (by simp [hy])), Sem.run_pure, List.map_cons]

theorem ok_build_array {t e : TypeId} {m : Nat} {parts : Array (Nat × Operand)} {z : List Value} {s : Nat} {qs : List (Nat × Nat × Operand)} (ho : o.op = .build t parts) (hz : zeroOf P t = some z) (ht : P.underlying t = some (.array m e)) (hs : sizeT P e = some s)
    (hq : partsWith (fun i => some (i * s, s)) parts.toList = some qs) (hx : ∀ p ∈ parts.toList, VRel φ (ρ p.2) (ρ' p.2)) (hR : R P φ σ w) (h : op1 ρ σ (.build z qs) = some (v, σ')) : OpOk P φ σ w ρ' o v σ' := by
  simp only [op1] at h
  cases hf : fillL z (qs.map fun p => (p.1, p.2.1, ρ p.2.2)) with
  | none => simp [hf] at h
  | some out =>
    simp only [hf, Option.some.injEq, Prod.mk.injEq] at h
    obtain ⟨rfl, rfl⟩ := h
    obtain ⟨i, zv, hi, hzv, hcl, hst, rfl⟩ := zeroOf_spec hz
    obtain ⟨out', hf', hrel, hone, _⟩ := fill_sound (ρ' := ρ') (φ := φ) (fun i => some (i * s, s)) (fun i => some (i * s, s)) (fun _ _ h => h) parts.toList qs hq hx zv.cells.toList zv.cells (closed_rel φ hcl).cells (closed_one hst hcl) out hf
    refine .pure hR (v' := .agg out') (.agg (by simpa using hone) (by simpa using hrel)) ?_
    simp [execOp, ho, Instr.build, run_zeroV hi hzv, run_underlying ht, run_sizeT hs, hf']

theorem ok_build_struct {t : TypeId} {fs : Array Field} {parts : Array (Nat × Operand)} {z : List Value} {qs : List (Nat × Nat × Operand)} (ho : o.op = .build t parts) (hz : zeroOf P t = some z) (ht : P.underlying t = some (.struct fs))
    (hall : ∀ f ∈ fs.toList, ∃ s, sizeT P f.type = some s) (hq : partsWith (places P fs) parts.toList = some qs) (hx : ∀ p ∈ parts.toList, VRel φ (ρ p.2) (ρ' p.2)) (hR : R P φ σ w) (h : op1 ρ σ (.build z qs) = some (v, σ')) : OpOk P φ σ w ρ' o v σ' := by
  simp only [op1] at h
  cases hf : fillL z (qs.map fun p => (p.1, p.2.1, ρ p.2.2)) with
  | none => simp [hf] at h
  | some out =>
    simp only [hf, Option.some.injEq, Prod.mk.injEq] at h
    obtain ⟨rfl, rfl⟩ := h
    obtain ⟨i, zv, hi, hzv, hcl, hst, rfl⟩ := zeroOf_spec hz
    have hpl : ∀ (i : Nat) (p : Nat × Nat), places P fs i = some p → ((fs.map fun f => (f.offset, P.cellsOf f.type))[i]? : Option (Nat × Nat)) = some p := by
      intro i p hp
      unfold places at hp
      cases hfi : fs[i]? with
      | none => simp [hfi] at hp
      | some f =>
        simp only [hfi] at hp
        cases hsf : sizeT P f.type with
        | none => simp [hsf] at hp
        | some s => simp [hsf] at hp; simp [hfi, sizeT_cellsOf hsf, hp]
    obtain ⟨out', hf', hrel, hone, _⟩ := fill_sound (ρ' := ρ') (φ := φ) (places P fs) (fun i => (fs.map fun f => (f.offset, P.cellsOf f.type))[i]?) hpl parts.toList qs hq hx zv.cells.toList zv.cells (closed_rel φ hcl).cells (closed_one hst hcl) out hf
    have hm : (fs.mapM fun f => (do pure (f.offset, ← sizeOf f.type) : Sem (Nat × Nat))).run P w = .ok (fs.map fun f => (f.offset, P.cellsOf f.type)) w := by
      rw [Array.mapM_eq_mapM_toList]
      rw [Sem.run_map, run_mapM_pure _ (fun f => (f.offset, P.cellsOf f.type)) w fs.toList (fun f hf => by obtain ⟨s, hs⟩ := hall f hf; simp [run_sizeT hs, sizeT_cellsOf hs])]
      exact congrArg (fun a => Result.ok a w) (Array.ext' (by simp))
    refine .pure hR (v' := .agg out') (.agg (by simpa using hone) (by simpa using hrel)) ?_
    simp only [execOp, ho, Instr.build, Sem.run_bind, run_zeroV hi hzv, Result.andThen_ok, run_underlying ht, hm, Array.toList_map]
    rw [hf']
    rfl

theorem ok_buildSlice {t e : TypeId} {len : Nat} {parts : Array (Nat × Operand)} {z : List Value} {s : Nat} {qs : List (Nat × Nat × Operand)} (ho : o.op = .buildSlice t len parts) (ht : P.underlying t = some (.slice e)) (hs : sizeT P e = some s) (hz : zeroOf P e = some z)
    (hlen : len * s ≤ 2 ^ 24) (hzl : z.length = s) (hq : partsWith (fun i => some (i * s, s)) parts.toList = some qs) (hx : ∀ p ∈ parts.toList, VRel φ (ρ p.2) (ρ' p.2)) (hR : R P φ σ w) (h : op1 ρ σ (.buildSlice e ((List.replicate len z).flatten) len qs) = some (v, σ')) :
    OpOk P φ σ w ρ' o v σ' := by
  simp only [op1] at h
  cases hf : fillL ((List.replicate len z).flatten) (qs.map fun p => (p.1, p.2.1, ρ p.2.2)) with
  | none => simp [hf] at h
  | some out =>
    simp only [hf, Option.some.injEq, Prod.mk.injEq] at h
    obtain ⟨rfl, rfl⟩ := h
    obtain ⟨i, zv, hi, hzv, hcl, hst, rfl⟩ := zeroOf_spec hz
    simp only [Array.length_toList] at hzl
    have hones : ∀ u ∈ (List.replicate len zv.cells.toList).flatten, u.oneCell' = true := by
      intro u hu
      obtain ⟨l', hl', hu'⟩ := List.mem_flatten.1 hu
      rw [List.eq_of_mem_replicate hl'] at hu'
      exact closed_one hst hcl u hu'
    have hrel0 : VsRel φ (List.replicate len zv.cells.toList).flatten (List.replicate len zv.cells.toList).flatten := by
      refine vs_of_all fun u hu => ?_
      obtain ⟨l', hl', hu'⟩ := List.mem_flatten.1 hu
      rw [List.eq_of_mem_replicate hl'] at hu'
      obtain ⟨j, hj⟩ := List.mem_iff_getElem?.1 hu'
      obtain ⟨u', hu'', hr⟩ := (closed_rel φ hcl).cells.get j u hj
      rw [hj] at hu''
      cases hu''
      exact hr
    have hcells : ((Array.range (len * s)).map (fun j => zv.cells[j % zv.cells.size]!)).toList = (List.replicate len zv.cells.toList).flatten := by
      rw [← hzl]; exact zeroRow_eq zv.cells len
    obtain ⟨out', hf', hrel, hone, hol⟩ := fill_sound (ρ' := ρ') (φ := φ) (fun i => some (i * s, s)) (fun i => some (i * s, s)) (fun _ _ h => h) parts.toList qs hq hx _ ((Array.range (len * s)).map (fun j => zv.cells[j % zv.cells.size]!))
      (by rw [hcells]; exact hrel0) hones out hf
    have hsz : out'.size = len * P.cellsOf e := by
      have := hrel.length
      simp only [Array.length_toList] at this
      rw [this, hol, sizeT_cellsOf hs]
      simp [hzl]
    refine ⟨_, _, _, hR.push hrel hone e out' (by simp) (some len) (by intro n' e; cases e; exact hsz), slcNew_rel (Nat.le_refl _), .inl ?_⟩
    have hnb : ¬ (2 ^ 24 < len * s) := by omega
    by_cases hn0 : len * s = 0
    · have he : (Array.range (len * s)).map (fun j => zv.cells[j % zv.cells.size]!) = (Array.range (len * s)).map (fun j => (#[] : Array Value)[j % (#[] : Array Value).size]!) := by rw [hn0]; exact range0 _ _
      rw [he] at hf'
      simp [execOp, ho, Instr.buildSlice, run_underlying ht, run_sizeT hs, hn0, newRow] at hf' ⊢
      simp [hf']
    · have hnb' : ¬ (16777216 < len * s) := by omega
      simp [execOp, ho, Instr.buildSlice, run_underlying ht, run_sizeT hs, hn0, newRow, run_zeroV hi hzv, hf', hnb']

end
end Go.Ax
