/-
  AX, PART 4: each operation that calls nothing does in the model what it does in the interpreter.
-/
import Derived.Test.YtklmapfmilefhaaGreatAxRel
import Derived.Laws.Entries
import Derived.Laws.Slices
set_option linter.unusedSimpArgs false
set_option linter.unusedVariables false
set_option linter.unusedSectionVars false
namespace Go.Ax

instance : LawfulMonad Sem := LawfulMonad.mk' (m := Sem)
  (id_map := fun x => Sem.bind_pure' x)
  (pure_bind := fun _ _ => rfl)
  (bind_assoc := fun x f g => Sem.bind_assoc' x f g)

variable {P : Program}

def OpOk (P : Program) (φ : Phi) (σ : AHeap) (w : World) (ρ' : Operand → Value) (o : Oper) (v : Value) (σ' : AHeap) : Prop :=
  ∃ φ' w' v', Post P φ σ w φ' σ' w' ∧ VRel φ' v v' ∧ ((execOp ρ' o).run P w = .ok (.value v') w' ∨ ((execOp ρ' o).run P w = .ok .skip w' ∧ v' = undef))

theorem OpOk.pure {φ : Phi} {σ : AHeap} {w : World} {ρ' : Operand → Value} {o : Oper} {v v' : Value} (hR : R P φ σ w) (hv : VRel φ v v') (h : (execOp ρ' o).run P w = .ok (.value v') w) : OpOk P φ σ w ρ' o v σ :=
  ⟨φ, w, v', Post.refl hR, hv, .inl h⟩

theorem undef_rel (φ : Phi) : VRel φ undef undef := .tuple .nil

/-! ### Types -/

theorem run_info {t : TypeId} {i : TypeInfo} (h : P.info? t = some i) (w : World) : (typeInfo t).run P w = .ok i w := by simp [typeInfo, h]
theorem run_size {t : TypeId} {i : TypeInfo} (h : P.info? t = some i) (w : World) : (sizeOf t).run P w = .ok i.size w := by simp [sizeOf, run_info h]
theorem sizeT_info {t : TypeId} {n : Nat} (h : sizeT P t = some n) : ∃ i, P.info? t = some i ∧ i.size = n := by
  unfold sizeT at h
  cases hi : P.info? t with
  | none => simp [hi] at h
  | some i => simp [hi] at h; exact ⟨i, rfl, h⟩
theorem run_sizeT {t : TypeId} {n : Nat} (h : sizeT P t = some n) (w : World) : (sizeOf t).run P w = .ok n w := by
  obtain ⟨i, hi, rfl⟩ := sizeT_info h
  exact run_size hi w
theorem sizeT_cellsOf {t : TypeId} {n : Nat} (h : sizeT P t = some n) : P.cellsOf t = n := by
  obtain ⟨i, hi, rfl⟩ := sizeT_info h
  simp [Program.cellsOf, hi]

theorem run_isAgg_none {t : TypeId} (h : oneOrAgg P t = some none) (w : World) : (isAgg t).run P w = .ok false w := by
  unfold oneOrAgg at h
  cases hu : P.underlying t with
  | none => simp [hu] at h
  | some d =>
    cases hi : P.info? t with
    | none => cases d <;> simp [hu, hi] at h
    | some i =>
      cases d <;> simp [hu, hi] at h <;> simp [isAgg, run_underlying hu]
theorem run_isAgg_some {t : TypeId} {n : Nat} (h : oneOrAgg P t = some (some n)) (w : World) : (isAgg t).run P w = .ok true w ∧ (sizeOf t).run P w = .ok n w := by
  unfold oneOrAgg at h
  cases hu : P.underlying t with
  | none => simp [hu] at h
  | some d =>
    cases hi : P.info? t with
    | none => cases d <;> simp [hu, hi] at h
    | some i =>
      cases d <;> simp [hu, hi] at h <;> subst h <;> exact ⟨by simp [isAgg, run_underlying hu], run_size hi w⟩

theorem zeroOf_spec {t : TypeId} {z : List Value} (h : zeroOf P t = some z) : ∃ i v, P.info? t = some i ∧ i.zero = some v ∧ closedV v = true ∧ storable v = true ∧ v.cells.toList = z := by
  unfold zeroOf at h
  cases hi : P.info? t with
  | none => simp [hi] at h
  | some i =>
    cases hz : i.zero with
    | none => simp [hi, hz] at h
    | some v => simp [hi, hz] at h; exact ⟨i, v, rfl, hz, h.1.1, h.1.2, h.2⟩
theorem run_zeroV {t : TypeId} {i : TypeInfo} {v : Value} (hi : P.info? t = some i) (hz : i.zero = some v) (w : World) : (zeroValue t).run P w = .ok v w := by
  simp [zeroValue, run_info hi, hz]

/-! ### Constants -/

theorem vs_of_all {φ : Phi} : ∀ {l : List Value}, (∀ v ∈ l, VRel φ v v) → VsRel φ l l
  | [], _ => .nil
  | v :: l, h => .cons (h v (by simp)) (vs_of_all fun u hu => h u (by simp [hu]))

theorem closed_rel (φ : Phi) {v : Value} (h : closedV v = true) : VRel φ v v := by
  cases v with
  | bool b => exact .bool b
  | int k n => exact .int k n
  | string s => exact .string s
  | pointer a => cases a with
    | none => exact .ptrN
    | some a => simp [closedV] at h
  | slice a l c => cases a with
    | none => simp [closedV] at h; obtain ⟨rfl, rfl⟩ := h; exact .slcN
    | some a => simp [closedV] at h
  | nilFunc => exact .nilFunc
  | nilIface => exact .nilIface
  | agg cs =>
    simp only [closedV, List.all_eq_true] at h
    refine .agg (fun x hx => ?_) (vs_of_all fun x hx => ?_)
    · have := h x hx
      cases x <;> first | rfl | simp at this
    · have := h x hx
      cases x with
      | bool b => exact .bool b
      | int k n => exact .int k n
      | string s => exact .string s
      | pointer a => cases a with
        | none => exact .ptrN
        | some a => simp at this
      | slice a l c => cases a with
        | none => simp at this; obtain ⟨rfl, rfl⟩ := this; exact .slcN
        | some a => simp at this
      | nilFunc => exact .nilFunc
      | nilIface => exact .nilIface
      | _ => simp at this
  | _ => simp [closedV] at h

theorem closed_one {v : Value} (hs : storable v = true) (h : closedV v = true) : ∀ x ∈ v.cells.toList, x.oneCell' = true :=
  cells_one hs fun xs e => by subst e; exact VRel.agg_one (closed_rel (fun _ => .dead none) h) xs rfl

/-! ### Loads, stores, new blocks -/

theorem run_loadVar_one {t : TypeId} (h : oneOrAgg P t = some none) {w : World} {a : Addr} {v : Value} (hv : w.cell? a = some v) : (loadVar t a).run P w = .ok v w := by
  simp [loadVar, run_isAgg_none h, hv]
theorem run_loadVar_agg {t : TypeId} {n : Nat} (h : oneOrAgg P t = some (some n)) {w : World} {a : Addr} {cs : List Value} (hl : cs.length = n) (hv : ∀ (j : Nat) (v : Value), cs[j]? = some v → w.cell? (a.add j) = some v) :
    (loadVar t a).run P w = .ok (.agg cs.toArray) w := by
  subst hl
  simp [loadVar, (run_isAgg_some h w).1, (run_isAgg_some h w).2, run_loadCells_list w a cs hv]

theorem read_sound {φ : Phi} {σ : AHeap} {w : World} (hR : R P φ σ w) {t : TypeId} {sz : Option Nat} (hs : oneOrAgg P t = some sz) {a a' : Addr} (ha : ARel φ a a') {v : Value}
    (h : σ.read sz a = some v) : ∃ v', (loadVar t a').run P w = .ok v' w ∧ VRel φ v v' := by
  cases sz with
  | none =>
    obtain ⟨v', hv', hr, _⟩ := hR.cell ha h
    exact ⟨v', run_loadVar_one hs hv', hr⟩
  | some n =>
    simp only [AHeap.read] at h
    cases hc : σ.cells a n with
    | none => simp [hc] at h
    | some cs =>
      simp only [hc, Option.some.injEq] at h
      subst h
      obtain ⟨cs', hr, hl, h1, hcell⟩ := hR.cells ha hc
      exact ⟨.agg cs'.toArray, run_loadVar_agg hs (hr.length.trans hl) hcell, .agg (by simpa using h1) (by simpa using hr)⟩

theorem run_newVar (t : TypeId) (v : Value) (w : World) : (newVar t v).run P w = .ok ⟨w.heap.size, 0, none⟩ (w.alloc (.cells v.cells t)) := by
  simp [newVar, newRow]

theorem new_rel {φ : Phi} {σ : AHeap} {w : World} (k : Option Nat) : VRel (φ.set σ.size (.live w.heap.size 0 k)) (.pointer (some ⟨σ.size, 0, none⟩)) (.pointer (some ⟨w.heap.size, 0, none⟩)) :=
  .ptr (by simp [ARel, Phi.set])

theorem slcNew_rel {φ : Phi} {i b n k : Nat} (h : n ≤ k) : VRel (φ.set i (.live b 0 (some k))) (.slice (some ⟨i, 0, none⟩) n 1) (.slice (some ⟨b, 0, none⟩) n k) :=
  .slc (.inr (by simp [ARel, Phi.set])) h (fun _ => ⟨rfl, by simp [Phi.set]⟩)

/-! ### Operations -/
section
variable {φ : Phi} {σ : AHeap} {w : World} {ρ ρ' : Operand → Value} {o : Oper} {v : Value} {σ' : AHeap}

theorem ok_alloc {e : TypeId} (ho : o.op = .alloc e) {z : List Value} (hz : zeroOf P e = some z) (hR : R P φ σ w) (h : op1 ρ σ (.alloc e z) = some (v, σ')) : OpOk P φ σ w ρ' o v σ' := by
  simp only [op1, Option.some.injEq, Prod.mk.injEq] at h
  obtain ⟨rfl, rfl⟩ := h
  obtain ⟨i, zv, hi, hzv, hcl, hst, rfl⟩ := zeroOf_spec hz
  refine ⟨_, _, _, hR.push (cs := zv.cells.toList) (cs' := zv.cells.toList) (closed_rel φ hcl).cells (closed_one hst hcl) e zv.cells (by simp) none (by simp), new_rel none, .inl ?_⟩
  simp [execOp, ho, Instr.alloc, run_zeroV hi hzv, run_newVar]

theorem ok_box {e : TypeId} {x : Operand} (ho : o.op = .box e x) (hx : VRel φ (ρ x) (ρ' x)) (hR : R P φ σ w) (h : op1 ρ σ (.box e x) = some (v, σ')) : OpOk P φ σ w ρ' o v σ' := by
  simp only [op1] at h
  cases hs : storable (ρ x) with
  | false => simp [hs] at h
  | true =>
    simp only [hs, cond_true, Option.some.injEq, Prod.mk.injEq] at h
    obtain ⟨rfl, rfl⟩ := h
    refine ⟨_, _, _, hR.push hx.cells (cells_one hs hx.agg_one) e (ρ' x).cells (by simp) none (by simp), new_rel none, .inl ?_⟩
    simp [execOp, ho, Instr.box, run_newVar]

theorem ok_load {t : TypeId} {x : Operand} {sz : Option Nat} (ho : o.op = .load t x) (hs : oneOrAgg P t = some sz) (hx : VRel φ (ρ x) (ρ' x)) (hR : R P φ σ w) (h : op1 ρ σ (.load sz x) = some (v, σ')) :
    OpOk P φ σ w ρ' o v σ' := by
  cases hp : ρ x with
  | pointer a =>
    cases a with
    | none => simp [op1, hp] at h
    | some a =>
      rw [hp] at hx
      generalize hq : ρ' x = q at hx
      cases hx with
      | ptr ha =>
        rename_i a'
        simp only [op1, hp] at h
        cases hc : σ.read sz a with
        | none => simp [hc] at h
        | some u =>
          simp only [hc, Option.some.injEq, Prod.mk.injEq] at h
          obtain ⟨rfl, rfl⟩ := h
          obtain ⟨v', hl, hr⟩ := read_sound hR hs ha hc
          exact .pure hR hr (by simp [execOp, ho, Instr.loadAt, Instr.sureAddr, hq, hl])
  | _ => simp [op1, hp] at h

/-- Cells of a block are overwritten by related ones. -/
theorem write_rel {φ : Phi} {l : List Value} {c : Array Value} {vs vs' : List Value} {off : Nat} (hcells : ∀ (j : Nat) (v : Value), l[j]? = some v → v.oneCell' = true ∧ ∃ v' : Value, c[j]? = some v' ∧ VRel φ v v')
    (hv : VsRel φ vs vs') (hle : off + vs.length ≤ l.length) (hcl : l.length ≤ c.size) :
    ∀ (j : Nat) (u : Value), (setAt l off vs)[j]? = some u → ∃ v' : Value, (c.toList.take off ++ vs' ++ c.toList.drop (off + vs'.length)).toArray[j]? = some v' ∧ VRel φ u v' := by
  intro j u hj
  have hyl := hv.length
  unfold setAt at hj
  by_cases h1 : j < off
  · rw [List.getElem?_append_left (by simp; omega), List.getElem?_take_of_lt h1] at hj
    obtain ⟨_, v', hv', hr⟩ := hcells j u hj
    refine ⟨v', ?_, hr⟩
    rw [← Array.getElem?_toList] at hv'
    simp only [List.getElem?_toArray, List.append_assoc]
    rw [List.getElem?_append_left (by have := (List.getElem?_eq_some_iff.1 hv').1; simp at this ⊢; omega), List.getElem?_take_of_lt h1]
    exact hv'
  · have hta : (l.take off).length = off := by simp; omega
    have htc : (c.toList.take off).length = off := by simp; omega
    rw [List.getElem?_append_right (by omega), hta] at hj
    simp only [List.getElem?_toArray, List.append_assoc]
    rw [List.getElem?_append_right (by omega), htc]
    by_cases h2 : j - off < vs.length
    · rw [List.getElem?_append_left (by omega)] at hj
      obtain ⟨v', hv', hr⟩ := hv.get _ _ hj
      exact ⟨v', by rw [List.getElem?_append_left (by omega)]; exact hv', hr⟩
    · rw [List.getElem?_append_right (by omega), List.getElem?_drop] at hj
      obtain ⟨_, v', hv', hr⟩ := hcells _ u hj
      refine ⟨v', ?_, hr⟩
      rw [List.getElem?_append_right (by omega), List.getElem?_drop, hyl]
      rw [← Array.getElem?_toList] at hv'
      exact hv'

theorem write_one {l vs : List Value} {off : Nat} (h1 : ∀ v ∈ l, v.oneCell' = true) (h2 : ∀ v ∈ vs, v.oneCell' = true) : ∀ v ∈ setAt l off vs, v.oneCell' = true := by
  intro u hu
  unfold setAt at hu
  simp only [List.mem_append] at hu
  rcases hu with hu | hu | hu
  · exact h1 u (List.mem_of_mem_take hu)
  · exact h2 u hu
  · exact h1 u (List.mem_of_mem_drop hu)

/-- An owned block, seen from an address into it. -/
theorem R.owned {φ : Phi} {σ : AHeap} {w : World} (hR : R P φ σ w) {a a' : Addr} (ha : ARel φ a a') {obj : AObj} (hg : σ.get a.block = some obj) (hown : obj.own = true) :
    ∃ b k c, φ a.block = .live b 0 k ∧ a' = ⟨b, a.off, none⟩ ∧ w.heap[b]? = some (.cells c obj.elem (0, 0)) ∧ (∀ n, k = some n → c.size = n * P.cellsOf obj.elem) ∧ obj.cells.length ≤ c.size ∧
      (∀ (j : Nat) (v : Value), obj.cells[j]? = some v → v.oneCell' = true ∧ ∃ v' : Value, c[j]? = some v' ∧ VRel φ v v') ∧ (∀ v ∈ obj.cells, v.oneCell' = true) := by
  unfold ARel at ha
  cases hs' : φ a.block with
  | absent => simp [hs'] at ha
  | dead p => rw [hR.dead _ _ hs'] at hg; cases hg
  | live b o' k =>
    simp only [hs'] at ha
    obtain ⟨obj', c, e, fr, hg', hbk, hcells, hall⟩ := hR.live _ _ _ _ hs'
    obtain rfl : obj = obj' := Option.some.inj (hg.symm.trans hg')
    obtain ⟨rfl, rfl, rfl, hk⟩ := hall hown
    have hcells' : ∀ (j : Nat) (v : Value), obj.cells[j]? = some v → v.oneCell' = true ∧ ∃ v' : Value, c[j]? = some v' ∧ VRel φ v v' := by
      intro j v hj
      obtain ⟨h1, v', hv', hr⟩ := hcells j v hj
      exact ⟨h1, v', by rwa [Nat.zero_add] at hv', hr⟩
    refine ⟨b, k, c, rfl, by rw [ha, Nat.zero_add], hbk, hk, ?_, hcells', ?_⟩
    · rcases Nat.eq_zero_or_pos obj.cells.length with h0 | hp0
      · omega
      · obtain ⟨_, v', hv', _⟩ := hcells' (obj.cells.length - 1) _ (List.getElem?_eq_getElem (by omega))
        have := (Array.getElem?_eq_some_iff.1 hv').1
        omega
    · intro v hv
      obtain ⟨i, hi⟩ := List.mem_iff_getElem?.1 hv
      exact (hcells' i v hi).1

/-- Writing into an owned block, run by the model. -/
theorem R.write {φ : Phi} {σ : AHeap} {w : World} (hR : R P φ σ w) {a a' : Addr} (ha : ARel φ a a') {obj : AObj} (hg : σ.get a.block = some obj) (hown : obj.own = true) {vs vs' : List Value}
    (hv : VsRel φ vs vs') (h1 : ∀ v ∈ vs, v.oneCell' = true) (hle : a.off + vs.length ≤ obj.cells.length) :
    ∃ w', (storeCells a' vs').run P w = .ok () w' ∧ Post P φ σ w φ (σ.put a.block ⟨setAt obj.cells a.off vs, obj.elem, true⟩) w' := by
  obtain ⟨b, k, c, hs', rfl, hbk, hk, hcl, hcells, hones⟩ := hR.owned ha hg hown
  have hl := hv.length
  have hrun := run_storeCells_at (P := P) b a.off obj.elem vs' 0 c w hbk (by omega) (hv.one h1)
  simp only [Nat.add_zero] at hrun
  refine ⟨_, hrun, hR.put hs' hg hown (write_rel hcells hv hle hcl) (write_one hones h1) hbk ?_⟩
  simp; omega

theorem ok_store {t : TypeId} {x y : Operand} {sz : Nat} (ho : o.op = .store t x y) (hs : sizeT P t = some sz) (hx : VRel φ (ρ x) (ρ' x)) (hy : VRel φ (ρ y) (ρ' y)) (hR : R P φ σ w)
    (h : op1 ρ σ (.store sz x y) = some (v, σ')) : OpOk P φ σ w ρ' o v σ' := by
  cases hp : ρ x with
  | pointer a =>
    cases a with
    | none => simp [op1, hp] at h
    | some a =>
      simp only [op1, hp] at h
      cases hg : σ.get a.block with
      | none => simp [hg] at h
      | some obj =>
        simp only [hg] at h
        cases hb : (obj.own && storable (ρ y) && Nat.beq (ρ y).cells.size sz && Nat.ble (a.off + sz) obj.cells.length) with
        | false => simp [hb] at h
        | true =>
          simp only [hb, cond_true, Option.some.injEq, Prod.mk.injEq] at h
          obtain ⟨rfl, rfl⟩ := h
          simp only [Bool.and_eq_true] at hb
          obtain ⟨⟨⟨hown, hst⟩, hsz⟩, hle⟩ := hb
          have hsz := Nat.eq_of_beq_eq_true hsz
          have hle := Nat.le_of_ble_eq_true hle
          rw [hp] at hx
          generalize hq : ρ' x = q at hx
          cases hx with
          | ptr ha =>
            rename_i a'
            obtain ⟨w', hrun, hpost⟩ := hR.write ha hg hown hy.cells (cells_one hst hy.agg_one) (by simp only [Array.length_toList]; omega)
            have hs2 : (ρ' y).cells.size = sz := by have := hy.cells.length; simp at this; omega
            refine ⟨_, _, undef, hpost, undef_rel _, .inr ⟨?_, rfl⟩⟩
            simp only [execOp, ho, Instr.storeAt, Instr.sureAddr, hq, storeVar, Sem.run_bind, run_sizeT hs, Sem.run_pure, Result.andThen, hs2, ne_eq, not_true_eq_false, if_false, hrun]
  | _ => simp [op1, hp] at h

end
end Go.Ax
