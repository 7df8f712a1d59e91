/-
  BX, PART 4: each operation that calls nothing does in the model what it does in the interpreter.
-/
import Derived.Test.YtcifmjnfigcpmaaGreatBxA
import Derived.Laws.Entries
import Derived.Laws.Slices
import Derived.Laws.StructEq
set_option linter.unusedSimpArgs false
set_option linter.unusedVariables false
set_option linter.unusedSectionVars false
namespace Go.Bx

instance : LawfulMonad Sem := LawfulMonad.mk' (m := Sem)
  (id_map := fun x => Sem.bind_pure' x)
  (pure_bind := fun _ _ => rfl)
  (bind_assoc := fun x f g => Sem.bind_assoc' x f g)

variable {P : Program}

def OpOk (P : Program) (φ : Phi) (σ : AHeap) (w : World) (ρ' : Operand → Value) (o : Oper) (v : Value) (σ' : AHeap) : Prop :=
  ∃ φ' w' v', Post P φ σ w φ' σ' w' ∧ VRel φ' v v' ∧ ((execOp ρ' o).run P w = .ok (.value v') w' ∨ ((execOp ρ' o).run P w = .ok .skip w' ∧ v' = undef))

theorem OpOk.pure {φ : Phi} {σ : AHeap} {w : World} {ρ' : Operand → Value} {o : Oper} {v v' : Value} (hR : R P φ σ w) (hv : VRel φ v v') (h : (execOp ρ' o).run P w = .ok (.value v') w) : OpOk P φ σ w ρ' o v σ :=
  ⟨φ, w, v', Post.refl hR, hv, .inl h⟩

theorem undef_rel (φ : Phi) : VRel φ undef undef := .tuple .nil

/-! ### Types -/

theorem run_info {t : TypeId} {i : TypeInfo} (h : P.info? t = some i) (w : World) : (typeInfo t).run P w = .ok i w := by simp [typeInfo, h]
theorem run_size {t : TypeId} {i : TypeInfo} (h : P.info? t = some i) (w : World) : (sizeOf t).run P w = .ok i.size w := by simp [sizeOf, run_info h]
theorem sizeT_info {t : TypeId} {n : Nat} (h : sizeT P t = some n) : ∃ i, P.info? t = some i ∧ i.size = n := by
  unfold sizeT at h
  cases hi : P.info? t with
  | none => simp [hi] at h
  | some i => simp [hi] at h; exact ⟨i, rfl, h⟩
theorem run_sizeT {t : TypeId} {n : Nat} (h : sizeT P t = some n) (w : World) : (sizeOf t).run P w = .ok n w := by
  obtain ⟨i, hi, rfl⟩ := sizeT_info h
  exact run_size hi w
theorem sizeT_cellsOf {t : TypeId} {n : Nat} (h : sizeT P t = some n) : P.cellsOf t = n := by
  obtain ⟨i, hi, rfl⟩ := sizeT_info h
  simp [Program.cellsOf, hi]

theorem run_isAgg_none {t : TypeId} (h : oneOrAgg P t = some none) (w : World) : (isAgg t).run P w = .ok false w := by
  unfold oneOrAgg at h
  cases hu : P.underlying t with
  | none => simp [hu] at h
  | some d =>
    cases hi : P.info? t with
    | none => cases d <;> simp [hu, hi] at h
    | some i =>
      cases d <;> simp [hu, hi] at h <;> simp [isAgg, run_underlying hu]
theorem run_isAgg_some {t : TypeId} {n : Nat} (h : oneOrAgg P t = some (some n)) (w : World) : (isAgg t).run P w = .ok true w ∧ (sizeOf t).run P w = .ok n w := by
  unfold oneOrAgg at h
  cases hu : P.underlying t with
  | none => simp [hu] at h
  | some d =>
    cases hi : P.info? t with
    | none => cases d <;> simp [hu, hi] at h
    | some i =>
      cases d <;> simp [hu, hi] at h <;> subst h <;> exact ⟨by simp [isAgg, run_underlying hu], run_size hi w⟩

theorem zeroOf_spec {t : TypeId} {z : List Value} (h : zeroOf P t = some z) : ∃ i v, P.info? t = some i ∧ i.zero = some v ∧ closedV v = true ∧ storable v = true ∧ v.cells.toList = z := by
  unfold zeroOf at h
  cases hi : P.info? t with
  | none => simp [hi] at h
  | some i =>
    cases hz : i.zero with
    | none => simp [hi, hz] at h
    | some v => simp [hi, hz] at h; exact ⟨i, v, rfl, hz, h.1.1, h.1.2, h.2⟩
theorem run_zeroV {t : TypeId} {i : TypeInfo} {v : Value} (hi : P.info? t = some i) (hz : i.zero = some v) (w : World) : (zeroValue t).run P w = .ok v w := by
  simp [zeroValue, run_info hi, hz]

/-! ### Constants -/

theorem vs_of_all {φ : Phi} : ∀ {l : List Value}, (∀ v ∈ l, VRel φ v v) → VsRel φ l l
  | [], _ => .nil
  | v :: l, h => .cons (h v (by simp)) (vs_of_all fun u hu => h u (by simp [hu]))

theorem closed_rel (φ : Phi) {v : Value} (h : closedV v = true) : VRel φ v v := by
  cases v with
  | bool b => exact .bool b
  | int k n => exact .int k n
  | string s => exact .string s
  | pointer a => cases a with
    | none => exact .ptrN
    | some a => simp [closedV] at h
  | slice a l c => cases a with
    | none => simp [closedV] at h; obtain ⟨rfl, rfl⟩ := h; exact .slcN
    | some a => simp [closedV] at h
  | nilFunc => exact .nilFunc
  | nilIface => exact .nilIface
  | agg cs =>
    simp only [closedV, List.all_eq_true] at h
    refine .agg (fun x hx => ?_) (vs_of_all fun x hx => ?_)
    · have := h x hx
      cases x <;> first | rfl | simp at this
    · have := h x hx
      cases x with
      | bool b => exact .bool b
      | int k n => exact .int k n
      | string s => exact .string s
      | pointer a => cases a with
        | none => exact .ptrN
        | some a => simp at this
      | slice a l c => cases a with
        | none => simp at this; obtain ⟨rfl, rfl⟩ := this; exact .slcN
        | some a => simp at this
      | nilFunc => exact .nilFunc
      | nilIface => exact .nilIface
      | _ => simp at this
  | _ => simp [closedV] at h

theorem closed_one {v : Value} (hs : storable v = true) (h : closedV v = true) : ∀ x ∈ v.cells.toList, x.one1 = true :=
  cells_one hs fun xs e => by subst e; exact VRel.agg_one (closed_rel ⟨fun _ => .dead none, fun _ => none⟩ h) xs rfl

/-! ### Loads, stores, new blocks -/

theorem run_loadVar_one {t : TypeId} (h : oneOrAgg P t = some none) {w : World} {a : Addr} {v : Value} (hv : w.cell? a = some v) : (loadVar t a).run P w = .ok v w := by
  simp [loadVar, run_isAgg_none h, hv]
theorem run_loadVar_agg {t : TypeId} {n : Nat} (h : oneOrAgg P t = some (some n)) {w : World} {a : Addr} {cs : List Value} (hl : cs.length = n) (hv : ∀ (j : Nat) (v : Value), cs[j]? = some v → w.cell? (a.add j) = some v) :
    (loadVar t a).run P w = .ok (.agg cs.toArray) w := by
  subst hl
  simp [loadVar, (run_isAgg_some h w).1, (run_isAgg_some h w).2, run_loadCells_list w a cs hv]

theorem read_sound {φ : Phi} {σ : AHeap} {w : World} (hR : R P φ σ w) {t : TypeId} {sz : Option Nat} (hs : oneOrAgg P t = some sz) {a a' : Addr} (ha : ARel φ a a') {v : Value}
    (h : σ.read sz a = some v) : ∃ v', (loadVar t a').run P w = .ok v' w ∧ VRel φ v v' := by
  cases sz with
  | none =>
    obtain ⟨v', hv', hr, _⟩ := hR.cell ha h
    exact ⟨v', run_loadVar_one hs hv', hr⟩
  | some n =>
    simp only [AHeap.read] at h
    cases hc : σ.cells a n with
    | none => simp [hc] at h
    | some cs =>
      simp only [hc, Option.some.injEq] at h
      subst h
      obtain ⟨cs', hr, hl, h1, hcell⟩ := hR.cells ha hc
      exact ⟨.agg cs'.toArray, run_loadVar_agg hs (hr.length.trans hl) hcell, .agg (by simpa using h1) (by simpa using hr)⟩

/-- Cells of a block that is never written again. -/
theorem R.froze {φ : Phi} {σ : AHeap} {w : World} (hR : R P φ σ w) {a' : Addr} {mc : Array Value} (hz : φ.fz a'.block = some mc) (hs : a'.spot = none) : ∀ (j : Nat) (v : Value), (mc.toList.drop a'.off)[j]? = some v → w.cell? (a'.add j) = some v := by
  intro j v hj
  obtain ⟨e, fr, hb⟩ := hR.froz _ _ hz
  obtain ⟨b, o, s⟩ := a'
  simp only at hs hz hb
  subst hs
  rw [List.getElem?_drop] at hj
  rw [add_eq]
  simp only [World.cell?, hb, Option.isSome_none, Bool.false_eq_true, if_false]
  rw [← Array.getElem?_toList]; exact hj

theorem bv_read {φ : Phi} {σ : AHeap} {w : World} (hR : R P φ σ w) {t : TypeId} {sz : Option Nat} (hs : oneOrAgg P t = some sz) {u : TypeId} {nm : String} {xs ys : Array Value} {p : Value} (hp : FRel φ.fz (.func (.methodOf u nm) xs ys) p) {v : Value}
    (h : partA sz xs.toList 0 = some v) : ∃ a' v', p = .pointer (some a') ∧ (loadVar t a').run P w = .ok v' w ∧ VRel φ v v' := by
  cases hp with
  | bvp hz hsp h1 hx =>
    rename_i mc a'
    have hc := hR.froze hz hsp
    have hlen := hx.length
    cases sz with
    | none =>
      simp only [partA] at h
      obtain ⟨v', hv', hr⟩ := hx.get 0 v h
      have hlt := (List.getElem?_eq_some_iff.1 h).1
      rw [List.getElem?_take_of_lt hlt] at hv'
      have := hc 0 v' hv'
      have ha0 : a'.add 0 = a' := by simp [Addr.add]
      rw [ha0] at this
      exact ⟨a', v', rfl, run_loadVar_one hs this, hr.toV⟩
    | some n =>
      simp only [partA, Nat.zero_add, List.drop_zero] at h
      rw [Bool.cond_eq_ite] at h
      split at h
      · rename_i hb
        have hb := Nat.le_of_ble_eq_true hb
        cases h
        refine ⟨a', .agg (((mc.toList.drop a'.off).take xs.toList.length).take n).toArray, rfl, run_loadVar_agg hs (by simp at hlen hb ⊢; omega) ?_, .agg (fun x hx => h1 x (List.mem_of_mem_take (by simpa using hx))) (by simpa using (hx.take n).toV)⟩
        intro j v' hj
        apply hc
        have hjn : j < n := by
          have := (List.getElem?_eq_some_iff.1 hj).1
          simp at this; omega
        rw [List.getElem?_take_of_lt hjn] at hj
        have hjl : j < xs.toList.length := by omega
        rw [List.getElem?_take_of_lt hjl] at hj
        exact hj
      · cases h

theorem run_newVar (t : TypeId) (v : Value) (w : World) : (newVar t v).run P w = .ok ⟨w.heap.size, 0, none⟩ (w.alloc (.cells v.cells t)) := by
  simp [newVar, newRow]

theorem new_rel {φ : Phi} {σ : AHeap} {w : World} (k : Option Nat) : VRel (φ.set σ.size (.live w.heap.size 0 k)) (.pointer (some ⟨σ.size, 0, none⟩)) (.pointer (some ⟨w.heap.size, 0, none⟩)) :=
  .ptr (by simp [ARel, Phi.set])

theorem slcNew_rel {φ : Phi} {i b n k : Nat} (h : n ≤ k) : VRel (φ.set i (.live b 0 (some k))) (.slice (some ⟨i, 0, none⟩) n 1) (.slice (some ⟨b, 0, none⟩) n k) :=
  .slc (.inr (by simp [ARel, Phi.set])) h (fun _ => ⟨rfl, by simp [Phi.set]⟩)

/-! ### Operations -/
section
variable {φ : Phi} {σ : AHeap} {w : World} {ρ ρ' : Operand → Value} {o : Oper} {v : Value} {σ' : AHeap}

theorem ok_alloc {e : TypeId} (ho : o.op = .alloc e) {z : List Value} (hz : zeroOf P e = some z) (hR : R P φ σ w) (h : op1 ρ σ (.alloc e z) = some (v, σ')) : OpOk P φ σ w ρ' o v σ' := by
  simp only [op1, Option.some.injEq, Prod.mk.injEq] at h
  obtain ⟨rfl, rfl⟩ := h
  obtain ⟨i, zv, hi, hzv, hcl, hst, rfl⟩ := zeroOf_spec hz
  refine ⟨_, _, _, hR.push (cs := zv.cells.toList) (cs' := zv.cells.toList) ((closed_rel φ hcl).cells hst) (closed_one hst hcl) e zv.cells (by simp) none (by simp), new_rel none, .inl ?_⟩
  simp [execOp, ho, Instr.alloc, run_zeroV hi hzv, run_newVar]

theorem ok_box {e : TypeId} {x : Operand} (ho : o.op = .box e x) (hx : VRel φ (ρ x) (ρ' x)) (hR : R P φ σ w) (h : op1 ρ σ (.box e x) = some (v, σ')) : OpOk P φ σ w ρ' o v σ' := by
  simp only [op1] at h
  cases hs : storable (ρ x) with
  | false => simp [hs] at h
  | true =>
    simp only [hs, cond_true, Option.some.injEq, Prod.mk.injEq] at h
    obtain ⟨rfl, rfl⟩ := h
    refine ⟨_, _, _, hR.push (hx.cells hs) (cells_one hs hx.agg_one) e (ρ' x).cells (by simp) none (by simp), new_rel none, .inl ?_⟩
    simp [execOp, ho, Instr.box, run_newVar]

theorem ok_load {t : TypeId} {x : Operand} {sz : Option Nat} (ho : o.op = .load t x) (hs : oneOrAgg P t = some sz) (hx : VRel φ (ρ x) (ρ' x)) (hR : R P φ σ w) (h : op1 ρ σ (.load sz x) = some (v, σ')) :
    OpOk P φ σ w ρ' o v σ' := by
  cases hp : ρ x with
  | pointer a =>
    cases a with
    | none => simp [op1, hp] at h
    | some a =>
      rw [hp] at hx
      generalize hq : ρ' x = q at hx
      cases hx with
      | ptr ha =>
        rename_i a'
        simp only [op1, hp] at h
        cases hc : σ.read sz a with
        | none => simp [hc] at h
        | some u =>
          simp only [hc, Option.some.injEq, Prod.mk.injEq] at h
          obtain ⟨rfl, rfl⟩ := h
          obtain ⟨v', hl, hr⟩ := read_sound hR hs ha hc
          exact .pure hR hr (by simp [execOp, ho, Instr.loadAt, Instr.sureAddr, hq, hl])
  | func fn xs ys =>
    cases fn with
    | methodOf u nm =>
      rw [hp] at hx
      generalize hq : ρ' x = q at hx
      cases hx with
      | bvp hf =>
        simp only [op1, hp] at h
        cases hc : partA sz xs.toList 0 with
        | none => simp [hc] at h
        | some u =>
          simp only [hc, Option.some.injEq, Prod.mk.injEq] at h
          obtain ⟨rfl, rfl⟩ := h
          obtain ⟨a', v', rfl, hl, hr⟩ := bv_read hR hs hf hc
          exact .pure hR hr (by simp [execOp, ho, Instr.loadAt, Instr.sureAddr, hq, hl])
    | _ => simp [op1, hp] at h
  | _ => simp [op1, hp] at h

/-- Cells of a block are overwritten by related ones. -/
theorem write_rel {φ : Phi} {l : List Value} {c : Array Value} {vs vs' : List Value} {off : Nat} (hcells : ∀ (j : Nat) (v : Value), l[j]? = some v → v.one1 = true ∧ ∃ v' : Value, c[j]? = some v' ∧ VRel φ v v')
    (hv : VsRel φ vs vs') (hle : off + vs.length ≤ l.length) (hcl : l.length ≤ c.size) :
    ∀ (j : Nat) (u : Value), (setAt l off vs)[j]? = some u → ∃ v' : Value, (c.toList.take off ++ vs' ++ c.toList.drop (off + vs'.length)).toArray[j]? = some v' ∧ VRel φ u v' := by
  intro j u hj
  have hyl := hv.length
  unfold setAt at hj
  by_cases h1 : j < off
  · rw [List.getElem?_append_left (by simp; omega), List.getElem?_take_of_lt h1] at hj
    obtain ⟨_, v', hv', hr⟩ := hcells j u hj
    refine ⟨v', ?_, hr⟩
    rw [← Array.getElem?_toList] at hv'
    simp only [List.getElem?_toArray, List.append_assoc]
    rw [List.getElem?_append_left (by have := (List.getElem?_eq_some_iff.1 hv').1; simp at this ⊢; omega), List.getElem?_take_of_lt h1]
    exact hv'
  · have hta : (l.take off).length = off := by simp; omega
    have htc : (c.toList.take off).length = off := by simp; omega
    rw [List.getElem?_append_right (by omega), hta] at hj
    simp only [List.getElem?_toArray, List.append_assoc]
    rw [List.getElem?_append_right (by omega), htc]
    by_cases h2 : j - off < vs.length
    · rw [List.getElem?_append_left (by omega)] at hj
      obtain ⟨v', hv', hr⟩ := hv.get _ _ hj
      exact ⟨v', by rw [List.getElem?_append_left (by omega)]; exact hv', hr⟩
    · rw [List.getElem?_append_right (by omega), List.getElem?_drop] at hj
      obtain ⟨_, v', hv', hr⟩ := hcells _ u hj
      refine ⟨v', ?_, hr⟩
      rw [List.getElem?_append_right (by omega), List.getElem?_drop, hyl]
      rw [← Array.getElem?_toList] at hv'
      exact hv'

theorem write_one {l vs : List Value} {off : Nat} (h1 : ∀ v ∈ l, v.one1 = true) (h2 : ∀ v ∈ vs, v.one1 = true) : ∀ v ∈ setAt l off vs, v.one1 = true := by
  intro u hu
  unfold setAt at hu
  simp only [List.mem_append] at hu
  rcases hu with hu | hu | hu
  · exact h1 u (List.mem_of_mem_take hu)
  · exact h2 u hu
  · exact h1 u (List.mem_of_mem_drop hu)

/-- An owned block, seen from an address into it. -/
theorem R.owned {φ : Phi} {σ : AHeap} {w : World} (hR : R P φ σ w) {a a' : Addr} (ha : ARel φ a a') {obj : AObj} (hg : σ.get a.block = some obj) (hown : obj.own = true) :
    ∃ b k c, φ a.block = .live b 0 k ∧ a' = ⟨b, a.off, none⟩ ∧ w.heap[b]? = some (.cells c obj.elem (0, 0)) ∧ (∀ n, k = some n → c.size = n * P.cellsOf obj.elem) ∧ obj.cells.length ≤ c.size ∧
      (∀ (j : Nat) (v : Value), obj.cells[j]? = some v → v.one1 = true ∧ ∃ v' : Value, c[j]? = some v' ∧ VRel φ v v') ∧ (∀ v ∈ obj.cells, v.one1 = true) := by
  unfold ARel at ha
  cases hs' : φ a.block with
  | absent => simp [hs'] at ha
  | dead p => rw [hR.dead _ _ hs'] at hg; cases hg
  | live b o' k =>
    simp only [hs'] at ha
    obtain ⟨obj', c, e, fr, hg', hbk, hcells, hall⟩ := hR.live _ _ _ _ hs'
    obtain rfl : obj = obj' := Option.some.inj (hg.symm.trans hg')
    obtain ⟨rfl, rfl, rfl, hk⟩ := hall hown
    have hcells' : ∀ (j : Nat) (v : Value), obj.cells[j]? = some v → v.one1 = true ∧ ∃ v' : Value, c[j]? = some v' ∧ VRel φ v v' := by
      intro j v hj
      obtain ⟨h1, v', hv', hr⟩ := hcells j v hj
      exact ⟨h1, v', by rwa [Nat.zero_add] at hv', hr⟩
    refine ⟨b, k, c, rfl, by rw [ha, Nat.zero_add], hbk, hk, ?_, hcells', ?_⟩
    · rcases Nat.eq_zero_or_pos obj.cells.length with h0 | hp0
      · omega
      · obtain ⟨_, v', hv', _⟩ := hcells' (obj.cells.length - 1) _ (List.getElem?_eq_getElem (by omega))
        have := (Array.getElem?_eq_some_iff.1 hv').1
        omega
    · intro v hv
      obtain ⟨i, hi⟩ := List.mem_iff_getElem?.1 hv
      exact (hcells' i v hi).1

/-- Writing into an owned block, run by the model. -/
theorem R.write {φ : Phi} {σ : AHeap} {w : World} (hR : R P φ σ w) {a a' : Addr} (ha : ARel φ a a') {obj : AObj} (hg : σ.get a.block = some obj) (hown : obj.own = true) {vs vs' : List Value}
    (hv : VsRel φ vs vs') (h1 : ∀ v ∈ vs, v.one1 = true) (hle : a.off + vs.length ≤ obj.cells.length) :
    ∃ w', (storeCells a' vs').run P w = .ok () w' ∧ Post P φ σ w φ (σ.put a.block ⟨setAt obj.cells a.off vs, obj.elem, true⟩) w' := by
  obtain ⟨b, k, c, hs', rfl, hbk, hk, hcl, hcells, hones⟩ := hR.owned ha hg hown
  have hl := hv.length
  have hrun := run_storeCells_at (P := P) b a.off obj.elem vs' 0 c w hbk (by omega) (hv.one h1)
  simp only [Nat.add_zero] at hrun
  refine ⟨_, hrun, hR.put hs' hg hown (write_rel hcells hv hle hcl) (write_one hones h1) hbk ?_⟩
  simp; omega

theorem ok_store {t : TypeId} {x y : Operand} {sz : Nat} (ho : o.op = .store t x y) (hs : sizeT P t = some sz) (hx : VRel φ (ρ x) (ρ' x)) (hy : VRel φ (ρ y) (ρ' y)) (hR : R P φ σ w)
    (h : op1 ρ σ (.store sz x y) = some (v, σ')) : OpOk P φ σ w ρ' o v σ' := by
  cases hp : ρ x with
  | pointer a =>
    cases a with
    | none => simp [op1, hp] at h
    | some a =>
      simp only [op1, hp] at h
      cases hg : σ.get a.block with
      | none => simp [hg] at h
      | some obj =>
        simp only [hg] at h
        cases hb : (obj.own && storable (ρ y) && Nat.beq (ρ y).cells.size sz && Nat.ble (a.off + sz) obj.cells.length) with
        | false => simp [hb] at h
        | true =>
          simp only [hb, cond_true, Option.some.injEq, Prod.mk.injEq] at h
          obtain ⟨rfl, rfl⟩ := h
          simp only [Bool.and_eq_true] at hb
          obtain ⟨⟨⟨hown, hst⟩, hsz⟩, hle⟩ := hb
          have hsz := Nat.eq_of_beq_eq_true hsz
          have hle := Nat.le_of_ble_eq_true hle
          rw [hp] at hx
          generalize hq : ρ' x = q at hx
          cases hx with
          | ptr ha =>
            rename_i a'
            obtain ⟨w', hrun, hpost⟩ := hR.write ha hg hown (hy.cells hst) (cells_one hst hy.agg_one) (by simp only [Array.length_toList]; omega)
            have hs2 : (ρ' y).cells.size = sz := by have := (hy.cells hst).length; simp at this; omega
            refine ⟨_, _, undef, hpost, undef_rel _, .inr ⟨?_, rfl⟩⟩
            simp only [execOp, ho, Instr.storeAt, Instr.sureAddr, hq, storeVar, Sem.run_bind, run_sizeT hs, Sem.run_pure, Result.andThen, hs2, ne_eq, not_true_eq_false, if_false, hrun]
  | _ => simp [op1, hp] at h

end
end Go.Bx

namespace Go.Bx
variable {P : Program}
section
variable {φ : Phi} {σ : AHeap} {w : World} {ρ ρ' : Operand → Value} {o : Oper} {v : Value} {σ' : AHeap}

theorem ok_mv {x : Operand} (hrun : ∀ w, (execOp ρ' o).run P w = .ok (.value (ρ' x)) w) (hx : VRel φ (ρ x) (ρ' x)) (hR : R P φ σ w) (h : op1 ρ σ (.mv x) = some (v, σ')) : OpOk P φ σ w ρ' o v σ' := by
  simp only [op1, Option.some.injEq, Prod.mk.injEq] at h
  obtain ⟨rfl, rfl⟩ := h
  exact .pure hR hx (hrun w)

theorem ok_pick {c a b : Operand} (ho : o.op = .pick c a b) (hc : VRel φ (ρ c) (ρ' c)) (ha : VRel φ (ρ a) (ρ' a)) (hb : VRel φ (ρ b) (ρ' b)) (hR : R P φ σ w) (h : op1 ρ σ (.pick c a b) = some (v, σ')) : OpOk P φ σ w ρ' o v σ' := by
  cases hp : ρ c with
  | bool t =>
    rw [hp] at hc
    generalize hq : ρ' c = q at hc
    cases hc
    cases t <;> simp only [op1, hp, Option.some.injEq, Prod.mk.injEq] at h <;> obtain ⟨rfl, rfl⟩ := h
    · exact .pure hR hb (by simp [execOp, ho, hq, asBool])
    · exact .pure hR ha (by simp [execOp, ho, hq, asBool])
  | _ => simp [op1, hp] at h

theorem run_intArith (op : BinOp) (k : IntKind) (a b : Int) (v : Value) (w : World) (h : intBin op k a b = some v) (hop : op = .add ∨ op = .sub ∨ op = .mul) : (Op.intArith op k a b).run P w = .ok v w := by
  rcases hop with rfl | rfl | rfl <;> simp only [intBin, Option.some.injEq] at h <;> subst h <;> rfl

theorem run_intBin (op : BinOp) (t : TypeId) (k : IntKind) (a b : Int) (v : Value) (w : World) (h : intBin op k a b = some v) : (binOp op t (.int k a) (.int k b)).run P w = .ok v w := by
  cases op <;> simp only [intBin, Option.some.injEq, reduceCtorEq] at h
  case quo => split at h <;> simp_all [binOp, Op.intDiv]
  case rem => split at h <;> simp_all [binOp, Op.intDiv]
  all_goals (subst h; simp [binOp, Op.intArith, Op.intBits, Op.intCmp])

theorem run_shift (op : BinOp) (t : TypeId) (k l : IntKind) (a b : Int) (v : Value) (w : World) (h : shiftBin op k a b = some v) : (binOp op t (.int k a) (.int l b)).run P w = .ok v w := by
  unfold shiftBin at h
  split at h
  · cases h
  · rename_i hn
    cases op <;> simp only [Option.some.injEq, reduceCtorEq] at h <;> subst h <;> simp [binOp, Op.shift, hn]

theorem run_strBin (op : BinOp) (t : TypeId) (a b : ByteArray) (v : Value) (w : World) (h : strBin op a b = some v) : (binOp op t (.string a) (.string b)).run P w = .ok v w := by
  cases op <;> simp only [strBin, Option.some.injEq, reduceCtorEq] at h
  case add =>
    cases hb : Nat.ble (a.size + b.size) 140737488355328 with
    | false => simp [hb] at h
    | true =>
      simp only [hb, cond_true, Option.some.injEq] at h
      have hle := Nat.le_of_ble_eq_true hb
      have : ¬ ((9223372036854775807 : Int) < (a.size : Int) + (b.size : Int)) := by omega
      subst h
      simp [binOp, Op.stringOp, IntKind.max, IntKind.signed, IntKind.bits, this]
  all_goals (subst h; simp [binOp, Op.stringOp])

theorem flatEq_split : ∀ {ks : List CK} {xs ys xs' ys' : List Value} {ks' : List CK} {b : Bool}, flatEq (ks ++ ks') (xs ++ xs') (ys ++ ys') = some b → xs.length = ks.length → ys.length = ks.length →
    ∃ p q, flatEq ks xs ys = some p ∧ flatEq ks' xs' ys' = some q ∧ b = (p && q)
  | [], [], [], _, _, _, b, h, _, _ => ⟨true, b, rfl, by simpa using h, by simp⟩
  | [], _ :: _, _, _, _, _, _, _, h, _ => by simp at h
  | [], _, _ :: _, _, _, _, _, _, _, h => by simp at h
  | _ :: _, [], _, _, _, _, _, _, h, _ => by simp at h
  | _ :: _, _, [], _, _, _, _, _, _, h => by simp at h
  | k :: ks, x :: xs, y :: ys, xs', ys', ks', b, h, hx, hy => by
    have hx' : xs.length = ks.length := by simpa using hx
    have hy' : ys.length = ks.length := by simpa using hy
    simp only [List.cons_append] at h
    cases k <;> cases x <;> cases y <;> simp only [flatEq, reduceCtorEq] at h
    · split at h
      · rename_i hk
        cases hf : flatEq (ks ++ ks') (xs ++ xs') (ys ++ ys') with
        | none => simp [hf] at h
        | some r =>
          obtain ⟨p, q, hp, hq, e⟩ := flatEq_split hf hx' hy'
          simp [hf] at h
          exact ⟨_, q, by simp [flatEq, hp, hk]; rfl, hq, by rw [← h, e]; simp [Bool.and_assoc]⟩
      · cases h
    · cases hf : flatEq (ks ++ ks') (xs ++ xs') (ys ++ ys') with
      | none => simp [hf] at h
      | some r =>
        obtain ⟨p, q, hp, hq, e⟩ := flatEq_split hf hx' hy'
        simp [hf] at h
        exact ⟨_, q, by simp [flatEq, hp]; rfl, hq, by rw [← h, e]; simp [Bool.and_assoc]⟩
    · cases hf : flatEq (ks ++ ks') (xs ++ xs') (ys ++ ys') with
      | none => simp [hf] at h
      | some r =>
        obtain ⟨p, q, hp, hq, e⟩ := flatEq_split hf hx' hy'
        simp [hf] at h
        exact ⟨_, q, by simp [flatEq, hp]; rfl, hq, by rw [← h, e]; simp [Bool.and_assoc]⟩

theorem flatEq_length : ∀ {ks : List CK} {xs ys : List Value} {b : Bool}, flatEq ks xs ys = some b → xs.length = ks.length ∧ ys.length = ks.length
  | [], [], [], _, _ => ⟨rfl, rfl⟩
  | [], _ :: _, _, _, h => by simp [flatEq] at h
  | [], [], _ :: _, _, h => by simp [flatEq] at h
  | k :: ks, [], _, _, h => by cases k <;> simp [flatEq] at h
  | k :: ks, x :: xs, [], _, h => by cases k <;> cases x <;> simp [flatEq] at h
  | k :: ks, x :: xs, y :: ys, b, h => by
    have : ∃ r, flatEq ks xs ys = some r := by
      cases hf : flatEq ks xs ys with
      | some r => exact ⟨r, rfl⟩
      | none => cases k <;> cases x <;> cases y <;> simp [flatEq, hf] at h
    obtain ⟨r, hr⟩ := this
    have := flatEq_length hr
    simp [this]

/-- A value out of its cells. -/
def ofCells (agg : Bool) (l : List Value) : Value := if agg then .agg l.toArray else l.headD undef

theorem flatT_shape {d : Nat} {t : TypeId} {ks : List CK} (h : flatT P d t = some ks) : sizeT P t = some ks.length ∧ ∃ b, (isAgg t).run P = (fun w => .ok b w) ∧ (b = false → ks.length = 1) := by
  cases d with
  | zero => simp [flatT] at h
  | succ d =>
    unfold flatT at h
    split at h <;> first
      | (cases h; rename_i hu hs; exact ⟨hs, false, funext fun w => by simp [isAgg, run_underlying hu], fun _ => rfl⟩)
      | skip
    · rename_i hu hs
      split at h
      · split at h
        · rename_i h2
          cases h; exact ⟨by rw [hs, h2.2], true, funext fun w => by simp [isAgg, run_underlying hu], by simp⟩
        · cases h
      · cases h
    · rename_i hu hs
      split at h
      · split at h
        · rename_i h2
          cases h
          refine ⟨?_, true, funext fun w => by simp [isAgg, run_underlying hu], by simp⟩
          rw [hs, ← h2.1]; simp
        · cases h
      · cases h
    · cases h

theorem run_part_flat {t : TypeId} {n : Nat} {b : Bool} (hs : sizeT P t = some n) (hb : (isAgg t).run P = (fun w => .ok b w)) (h1 : b = false → n = 1) (xs : Array Value) (off : Nat) (hle : off + n ≤ xs.size) (w : World) :
    (part t xs off).run P w = .ok (ofCells b ((xs.toList.drop off).take n)) w := by
  have hb' : (isAgg t).run P w = .ok b w := congrFun hb w
  cases b with
  | true =>
    have : xs.extract off (off + n) = ((xs.toList.drop off).take n).toArray := by
      apply Array.ext'
      simp [Array.toList_extract, List.extract_eq_take_drop]
    simp [part, hb', run_sizeT hs, ofCells, this]
  | false =>
    have h1 := h1 rfl
    subst h1
    have hlt : off < xs.size := by omega
    have : (xs.toList.drop off).take 1 = [xs[off]] := by
      rw [List.drop_eq_getElem_cons (by simpa using hlt)]; simp
    simp [part, hb', ofCells, hlt, this]

theorem equalIn_flat : ∀ (d : Nat) (t : TypeId) (ks : List CK), flatT P d t = some ks → ∀ (D : Nat), d ≤ D → ∀ (b : Bool), (isAgg t).run P = (fun w => .ok b w) → ∀ (xs ys : List Value) (r : Bool), flatEq ks xs ys = some r →
    ∀ w, (Op.equalIn D t (ofCells b xs) (ofCells b ys)).run P w = .ok r w
  | 0, t, ks, h, _, _, _, _, _, _, _, _, _ => by simp [flatT] at h
  | d + 1, t, ks, h, 0, hD, _, _, _, _, _, _, _ => by omega
  | d + 1, t, ks, h, D + 1, hD, b, hb, xs, ys, r, hr, w => by
    have hbw : ∀ c, (isAgg t).run P w = .ok c w → b = c := fun c hc => by
      have := congrFun hb w
      rw [hc] at this
      injection this with h1 _
      exact h1.symm
    obtain ⟨hlx, hly⟩ := flatEq_length hr
    unfold flatT at h
    split at h
    · cases h
      rename_i hu hs
      obtain rfl := hbw false (by simp [isAgg, run_underlying hu])
      match xs, ys, hr with
      | [.int k a], [.int l c], hr =>
        simp only [flatEq] at hr
        split at hr
        · rename_i hk; subst hk
          simp at hr; subst hr
          simp [ofCells, run_equalIn_int w D t k _ a c hu]
        · cases hr
    · cases h
      rename_i hu hs
      obtain rfl := hbw false (by simp [isAgg, run_underlying hu])
      match xs, ys, hr with
      | [.bool a], [.bool c], hr =>
        simp [flatEq] at hr; subst hr
        simp [ofCells, run_equalIn_bool' w D t a c hu]
    · cases h
      rename_i hu hs
      obtain rfl := hbw false (by simp [isAgg, run_underlying hu])
      match xs, ys, hr with
      | [.string a], [.string c], hr =>
        simp [flatEq] at hr; subst hr
        simp [ofCells, run_equalIn_string w D t a c hu, beq_toListBytes]
    · rename_i fs n hu hs
      obtain rfl := hbw true (by simp [isAgg, run_underlying hu])
      split at h
      · rename_i ks' hf
        split at h
        · rename_i h2
          cases h
          have hfo : P.fieldsOf t = fs := by simp [Program.fieldsOf, hu]
          simp only [ofCells, if_true]
          rw [run_equalIn_struct w D t _ _ (by rw [hfo]; exact hu) h2.1, hfo]
          -- the fields, one by one
          have key : ∀ (fl : List Field) (off : Nat) (kk : List CK) (px py : List Value), flatFs (flatT P d) fl off = some kk → px.length = off → py.length = off → ∀ (qx qy : List Value) (r : Bool), flatEq kk qx qy = some r → px ++ qx = xs → py ++ qy = ys →
              (Op.eqFields D xs.toArray ys.toArray fl).run P w = .ok r w := by
            intro fl
            induction fl with
            | nil =>
              intro off kk px py hk _ _ qx qy r hq _ _
              simp only [flatFs, Option.some.injEq] at hk
              subst hk
              match qx, qy, hq with
              | [], [], hq => simp [flatEq] at hq; subst hq; simp [Op.eqFields]
            | cons f fl ih =>
              intro off kk px py hk hpx hpy qx qy r hq hx hy
              simp only [flatFs] at hk
              cases hft : flatT P d f.type with
              | none => simp [hft] at hk
              | some kf =>
                simp only [hft] at hk
                split at hk
                · rename_i hno
                  cases hfr : flatFs (flatT P d) fl (off + kf.length) with
                  | none => simp [hfr] at hk
                  | some kr =>
                    simp only [hfr, Option.some.injEq] at hk
                    subst hk
                    obtain ⟨hql, hqr⟩ := flatEq_length hq
                    simp only [List.length_append] at hql hqr
                    have ex : qx = qx.take kf.length ++ qx.drop kf.length := (List.take_append_drop _ _).symm
                    have ey : qy = qy.take kf.length ++ qy.drop kf.length := (List.take_append_drop _ _).symm
                    rw [ex, ey] at hq
                    obtain ⟨p, q, hp, hq', e⟩ := flatEq_split hq (by simp; omega) (by simp; omega)
                    obtain ⟨hsf, bf, hbf, h1f⟩ := flatT_shape hft
                    have px1 := run_part_flat hsf hbf h1f xs.toArray f.offset (by rw [hno.2, ← hx]; simp; omega) w
                    have py1 := run_part_flat hsf hbf h1f ys.toArray f.offset (by rw [hno.2, ← hy]; simp; omega) w
                    have sx : (xs.drop f.offset).take kf.length = qx.take kf.length := by rw [hno.2, ← hx, ← hpx]; simp
                    have sy : (ys.drop f.offset).take kf.length = qy.take kf.length := by rw [hno.2, ← hy, ← hpy]; simp
                    simp only [sx, sy] at px1 py1
                    have ihf := equalIn_flat d f.type kf hft D (by omega) bf hbf _ _ p hp w
                    have ihr := ih (off + kf.length) kr (px ++ qx.take kf.length) (py ++ qy.take kf.length) hfr (by simp; omega) (by simp; omega) _ _ q hq' (by rw [← hx]; simp) (by rw [← hy]; simp)
                    simp only [Op.eqFields, if_pos hno.1, Sem.run_bind, px1, py1, Result.andThen_ok, ihf, Sem.run_ite]
                    subst e
                    cases p
                    · simp
                    · simp [ihr]
                · cases hk
          exact key fs.toList 0 _ [] [] hf rfl rfl xs ys r hr (by simp) (by simp)
        · cases h
      · cases h
    · rename_i l e n hu hs
      obtain rfl := hbw true (by simp [isAgg, run_underlying hu])
      split at h
      · rename_i ke hf
        split at h
        · rename_i h2
          cases h
          obtain ⟨hse, be, hbe, h1e⟩ := flatT_shape hf
          simp only [ofCells, if_true, Op.equalIn, Sem.run_bind, run_underlying hu, Result.andThen_ok, run_sizeT hse]
          rw [Std.Legacy.Range.forIn_eq_forIn_range']
          have hsz : ([0:l] : Std.Legacy.Range).size = l := by simp [Std.Legacy.Range.size]
          rw [hsz]
          have key : ∀ (m i : Nat), i + m = l → ∀ (px py qx qy : List Value) (r : Bool), px.length = i * ke.length → py.length = i * ke.length → flatEq (List.replicate m ke).flatten qx qy = some r → px ++ qx = xs → py ++ qy = ys →
              Result.andThen ((forIn (List.range' i m 1) ((none, ()) : Option Bool × Unit) fun i _ => (do
                let __do_lift ← part e xs.toArray (i * ke.length)
                let __do_lift_1 ← part e ys.toArray (i * ke.length)
                let __do_lift ← Op.equalIn D e __do_lift __do_lift_1
                if (!__do_lift) = true then Pure.pure (ForInStep.done (some false, ())) else Pure.pure (ForInStep.yield (none, ())) : Sem (ForInStep (Option Bool × Unit)))).run P w) (fun a w' => (match a.fst with | some r => (Pure.pure r : Sem Bool) | none => Pure.pure true).run P w') = .ok r w := by
            intro m
            induction m with
            | zero =>
              intro i hi px py qx qy r _ _ hq _ _
              match qx, qy, hq with
              | [], [], hq => simp [flatEq] at hq; subst hq; simp
            | succ m ih =>
              intro i hi px py qx qy r hpx hpy hq hx hy
              rw [List.replicate_succ, List.flatten_cons] at hq
              obtain ⟨hql, hqr⟩ := flatEq_length hq
              simp only [List.length_append] at hql hqr
              have ex : qx = qx.take ke.length ++ qx.drop ke.length := (List.take_append_drop _ _).symm
              have ey : qy = qy.take ke.length ++ qy.drop ke.length := (List.take_append_drop _ _).symm
              rw [ex, ey] at hq
              obtain ⟨p, q, hp, hq', e'⟩ := flatEq_split hq (by simp; omega) (by simp; omega)
              have px1 := run_part_flat hse hbe h1e xs.toArray (i * ke.length) (by rw [← hx]; simp; omega) w
              have py1 := run_part_flat hse hbe h1e ys.toArray (i * ke.length) (by rw [← hy]; simp; omega) w
              have sx : (xs.drop (i * ke.length)).take ke.length = qx.take ke.length := by rw [← hx, ← hpx]; simp
              have sy : (ys.drop (i * ke.length)).take ke.length = qy.take ke.length := by rw [← hy, ← hpy]; simp
              simp only [sx, sy] at px1 py1
              have ihf := equalIn_flat d e ke hf D (by omega) be hbe _ _ p hp w
              have ihr := ih (i + 1) (by omega) (px ++ qx.take ke.length) (py ++ qy.take ke.length) _ _ q (by rw [Nat.add_mul]; simp; omega) (by rw [Nat.add_mul]; simp; omega) hq' (by rw [← hx]; simp) (by rw [← hy]; simp)
              simp only [List.range'_succ, List.forIn_cons, Sem.run_bind, px1, py1, Result.andThen_ok, ihf, Sem.run_ite]
              subst e'
              cases p
              · simp
              · simpa using ihr
          have := key l 0 (by omega) [] [] xs ys r (by simp) (by simp) hr (by simp) (by simp)
          simp at this ⊢
          refine Eq.trans (congrArg _ (funext fun a => funext fun w' => ?_)) this
          rcases a with ⟨_ | _, _⟩ <;> rfl
        · cases h
      · cases h
    · cases h

end
end Go.Bx

namespace Go.Bx
variable {P : Program}
section
variable {φ : Phi} {σ : AHeap} {w : World} {ρ ρ' : Operand → Value} {o : Oper} {v : Value} {σ' : AHeap}

theorem run_eqGuard_plain (op : BinOp) (t : TypeId) (x y : Operand) (a b : Value) (w : World) (h1 : a = .nilIface → b ≠ .nilIface) (h2 : ∀ c d, a = .agg c → b ≠ .agg d) : (eqGuard op t x y a b).run P w = .ok () w := by
  have key : (match a, b with
      | .nilIface, .nilIface => if (x matches .const _) || (y matches .const _) then (pure () : Sem Unit) else do
          if ← Op.eqGuardIn Op.maxDepth t a b then unsupported (.noEntry "binop/eql: two nil values of an interface type with methods, neither of them the literal nil")
      | .agg _, .agg _ => do
        if !(← program).eqGuardType (← program).depth t then pure () else
        if ← Op.eqGuardIn Op.maxDepth t a b then unsupported (.noEntry "binop/eql: two nil values of an interface type with methods, in a part of a struct or an array")
      | _, _ => pure ()).run P w = .ok () w := by
    split
    · exact absurd rfl (h1 rfl)
    · exact absurd rfl (h2 _ _ rfl)
    · rfl
  cases op <;> first | exact key | rfl

theorem run_binOp_eql (t : TypeId) (x y : Value) (w : World) (hi : ∀ k a l b, x = .int k a → y ≠ .int l b) (hs : ∀ a b, x = .string a → y ≠ .string b) (hf : ∀ k a l b, x = .float k a → y ≠ .float l b)
    (hc : ∀ k a b l c d, x = .complex k a b → y ≠ .complex l c d) : (binOp .eql t x y).run P w = ((Op.equalIn 10000 t x y).run P w).andThen fun b w' => .ok (.bool b) w' := by
  unfold binOp
  split <;> first
    | (exact absurd rfl (hi _ _ _ _ rfl))
    | (exact absurd rfl (hs _ _ rfl))
    | (exact absurd rfl (hf _ _ _ _ rfl))
    | (exact absurd rfl (hc _ _ _ _ _ _ rfl))
    | (rename_i h; cases h; done)
    | simp_all [Op.equal, Op.maxDepth]
theorem run_binOp_neq (t : TypeId) (x y : Value) (w : World) (hi : ∀ k a l b, x = .int k a → y ≠ .int l b) (hs : ∀ a b, x = .string a → y ≠ .string b) (hf : ∀ k a l b, x = .float k a → y ≠ .float l b)
    (hc : ∀ k a b l c d, x = .complex k a b → y ≠ .complex l c d) : (binOp .neq t x y).run P w = ((Op.equalIn 10000 t x y).run P w).andThen fun b w' => .ok (.bool (!b)) w' := by
  unfold binOp
  split <;> first
    | (exact absurd rfl (hi _ _ _ _ rfl))
    | (exact absurd rfl (hs _ _ rfl))
    | (exact absurd rfl (hf _ _ _ _ rfl))
    | (exact absurd rfl (hc _ _ _ _ _ _ rfl))
    | (rename_i h; cases h; done)
    | simp_all [Op.equal, Op.maxDepth]

theorem flatB_spec {t : TypeId} {ks : List CK} (h : flatB P t = some ks) : P.eqGuardType P.depth t = false ∧ flatT P 20 t = some ks := by
  unfold flatB at h
  split at h
  · exact ⟨‹_›, h⟩
  · cases h

theorem flatEq_rel {φ : Phi} : ∀ {ks : List CK} {xs ys xs' ys' : List Value} {r : Bool}, flatEq ks xs ys = some r → VsRel φ xs xs' → VsRel φ ys ys' → flatEq ks xs' ys' = some r
  | [], [], [], _, _, _, h, .nil, .nil => h
  | [], _ :: _, _, _, _, _, h, _, _ => by simp [flatEq] at h
  | [], [], _ :: _, _, _, _, h, _, _ => by simp [flatEq] at h
  | k :: ks, [], _, _, _, _, h, _, _ => by cases k <;> simp [flatEq] at h
  | k :: ks, x :: xs, [], _, _, _, h, _, _ => by cases k <;> cases x <;> simp [flatEq] at h
  | k :: ks, x :: xs, y :: ys, _, _, r, h, .cons h1 h2, .cons h3 h4 => by
    have hr : ∀ q, flatEq ks xs ys = some q → flatEq ks _ _ = some q := fun q hq => flatEq_rel hq h2 h4
    cases k <;> cases x <;> cases y <;> simp only [flatEq, reduceCtorEq] at h <;> cases h1 <;> cases h3 <;> simp only [flatEq]
    · split at h
      · cases hf : flatEq ks xs ys with
        | none => simp [hf] at h
        | some q => simp [hf] at h; simp [*, hr q hf]
      · cases h
    · cases hf : flatEq ks xs ys with
      | none => simp [hf] at h
      | some q => simp [hf] at h; simp [hr q hf, h]
    · cases hf : flatEq ks xs ys with
      | none => simp [hf] at h
      | some q => simp [hf] at h; simp [hr q hf, h]

theorem other_sound {t : TypeId} {a b a' b' : Value} {r : Bool} (h : otherEq (eqKind P t) a b = some r) (ha : VRel φ a a') (hb : VRel φ b b') (op : BinOp) (x y : Operand) :
    (eqGuard op t x y a' b').run P w = .ok () w ∧ (binOp .eql t a' b').run P w = .ok (.bool r) w ∧ (binOp .neq t a' b').run P w = .ok (.bool (!r)) w := by
  have fin : (a' = .nilIface → b' ≠ .nilIface) → (∀ c d, a' = .agg c → b' ≠ .agg d) → (∀ k a l b, a' = .int k a → b' ≠ .int l b) → (∀ c d, a' = .string c → b' ≠ .string d) → (∀ k a l b, a' = .float k a → b' ≠ .float l b) →
      (∀ k a b l c d, a' = .complex k a b → b' ≠ .complex l c d) → (∀ D, (Op.equalIn (D + 1) t a' b').run P w = .ok r w) →
      (eqGuard op t x y a' b').run P w = .ok () w ∧ (binOp .eql t a' b').run P w = .ok (.bool r) w ∧ (binOp .neq t a' b').run P w = .ok (.bool (!r)) w := by
    intro h1 h2 h3 h4 h5 h6 h8
    have h7 : (Op.equalIn 10000 t a' b').run P w = .ok r w := h8 9999
    exact ⟨run_eqGuard_plain _ _ _ _ _ _ _ h1 h2, by rw [run_binOp_eql _ _ _ _ h3 h4 h5 h6, h7]; rfl, by rw [run_binOp_neq _ _ _ _ h3 h4 h5 h6, h7]; rfl⟩
  unfold eqKind at h
  split at h
  all_goals rename_i hu
  · unfold otherEq at h; split at h <;> first | (cases h; done) | (rename_i e; cases e; done) | (cases h; cases ha; cases hb; (try (rename FRel _ _ _ => hff; cases hff)); refine fin (by simp) (by simp) (by simp) (by simp) (by simp) (by simp) ?_; intro D; simp [Op.equalIn, run_underlying hu])
  · unfold otherEq at h; split at h <;> first | (cases h; done) | (rename_i e; cases e; done) | (cases h; cases ha; cases hb; (try (rename FRel _ _ _ => hff; cases hff)); refine fin (by simp) (by simp) (by simp) (by simp) (by simp) (by simp) ?_; intro D; simp [Op.equalIn, run_underlying hu])
  · unfold otherEq at h; split at h <;> first | (cases h; done) | (rename_i e; cases e; done) | (cases h; cases ha; cases hb; (try (rename FRel _ _ _ => hff; cases hff)); refine fin (by simp) (by simp) (by simp) (by simp) (by simp) (by simp) ?_; intro D; simp [Op.equalIn, run_underlying hu])
  · unfold otherEq at h; split at h <;> first | (cases h; done) | (rename_i e; cases e; done) | (cases h; cases ha; cases hb; (try (rename FRel _ _ _ => hff; cases hff)); refine fin (by simp) (by simp) (by simp) (by simp) (by simp) (by simp) ?_; intro D; simp [Op.equalIn, run_underlying hu])
  · unfold otherEq at h; split at h <;> first | (cases h; done) | (rename_i e; cases e; done) | (cases h; cases ha; cases hb; (try (rename FRel _ _ _ => hff; cases hff)); refine fin (by simp) (by simp) (by simp) (by simp) (by simp) (by simp) ?_; intro D; simp [Op.equalIn, run_underlying hu])
  · split at h
    · rename_i ks hf
      obtain ⟨hg, hft⟩ := flatB_spec hf
      unfold otherEq at h
      split at h <;> first | (cases h; done) | (rename_i e; cases e; done) | skip
      rename_i xs ys e
      cases e
      cases ha; cases hb
      rename_i xs' h1 hx ys' h2 hy
      have hr := flatEq_rel h hx hy
      have hr2 := equalIn_flat 20 t ks hft 10000 (by omega) true (funext fun w => by simp [isAgg, run_underlying hu]) _ _ r hr w
      simp only [ofCells, if_true] at hr2
      refine ⟨run_eqGuard_agg w op t x y xs' ys' hg, ?_, ?_⟩
      · rw [run_binOp_eql _ _ _ _ (by simp) (by simp) (by simp) (by simp)]
        simpa using congrArg (fun z => z.andThen fun b w' => Result.ok (Value.bool b) w') hr2
      · rw [run_binOp_neq _ _ _ _ (by simp) (by simp) (by simp) (by simp)]
        simpa using congrArg (fun z => z.andThen fun b w' => Result.ok (Value.bool (!b)) w') hr2
    · simp [otherEq] at h
  · split at h
    · rename_i ks hf
      obtain ⟨hg, hft⟩ := flatB_spec hf
      unfold otherEq at h
      split at h <;> first | (cases h; done) | (rename_i e; cases e; done) | skip
      rename_i xs ys e
      cases e
      cases ha; cases hb
      rename_i xs' h1 hx ys' h2 hy
      have hr := flatEq_rel h hx hy
      have hr2 := equalIn_flat 20 t ks hft 10000 (by omega) true (funext fun w => by simp [isAgg, run_underlying hu]) _ _ r hr w
      simp only [ofCells, if_true] at hr2
      refine ⟨run_eqGuard_agg w op t x y xs' ys' hg, ?_, ?_⟩
      · rw [run_binOp_eql _ _ _ _ (by simp) (by simp) (by simp) (by simp)]
        simpa using congrArg (fun z => z.andThen fun b w' => Result.ok (Value.bool b) w') hr2
      · rw [run_binOp_neq _ _ _ _ (by simp) (by simp) (by simp) (by simp)]
        simpa using congrArg (fun z => z.andThen fun b w' => Result.ok (Value.bool (!b)) w') hr2
    · simp [otherEq] at h
  · simp [otherEq] at h

theorem ok_bin {op : BinOp} {t u : TypeId} {x y : Operand} (ho : o.op = .binOp op t x y u) (hx : VRel φ (ρ x) (ρ' x)) (hy : VRel φ (ρ y) (ρ' y)) (hR : R P φ σ w) (h : op1 ρ σ (.bin op (eqKind P t) x y) = some (v, σ')) :
    OpOk P φ σ w ρ' o v σ' := by
  simp only [op1] at h
  cases hb : binA op (eqKind P t) (ρ x) (ρ y) with
  | none => simp [hb] at h
  | some u =>
    simp only [hb, Option.some.injEq, Prod.mk.injEq] at h
    obtain ⟨rfl, rfl⟩ := h
    have fin : ∀ (v' : Value), VRel φ u v' → (eqGuard op t x y (ρ' x) (ρ' y)).run P w = .ok () w → (binOp op t (ρ' x) (ρ' y)).run P w = .ok v' w → OpOk P φ σ w ρ' o u σ := by
      intro v' hv hg hrun
      exact .pure hR hv (by simp [execOp, ho, hg, hrun])
    generalize ρ x = a at hb hx
    generalize ρ y = b at hb hy
    generalize ρ' x = a' at hx fin
    generalize ρ' y = b' at hy fin
    unfold binA at hb
    split at hb
    · cases hx; cases hy
      have : VRel φ u u := by unfold shiftBin at hb; split at hb <;> simp at hb; subst hb; exact .int _ _
      exact fin u this (run_eqGuard_plain _ _ _ _ _ _ _ (by simp) (by simp)) (run_shift _ _ _ _ _ _ _ _ hb)
    · cases hx; cases hy
      have : VRel φ u u := by unfold shiftBin at hb; split at hb <;> simp at hb; subst hb; exact .int _ _
      exact fin u this (run_eqGuard_plain _ _ _ _ _ _ _ (by simp) (by simp)) (run_shift _ _ _ _ _ _ _ _ hb)
    · split at hb
      · rename_i hk
        subst hk
        cases hx; cases hy
        have : VRel φ u u := by
          unfold intBin at hb
          split at hb <;> first | (simp at hb; subst hb; constructor) | (split at hb <;> simp at hb; subst hb; constructor) | cases hb
        exact fin u this (run_eqGuard_plain _ _ _ _ _ _ _ (by simp) (by simp)) (run_intBin _ _ _ _ _ _ _ hb)
      · cases hb
    · cases hx; cases hy
      have : VRel φ u u := by
        unfold strBin at hb
        split at hb <;> first | (simp at hb; subst hb; constructor) | (rw [Bool.cond_eq_ite] at hb; split at hb <;> simp at hb; subst hb; constructor) | cases hb | skip
      exact fin u this (run_eqGuard_plain _ _ _ _ _ _ _ (by simp) (by simp)) (run_strBin _ _ _ _ _ _ hb)
    · cases hr : otherEq (eqKind P t) a b with
      | none => simp [hr] at hb
      | some r =>
        simp [hr] at hb; subst hb
        obtain ⟨h1, h2, h3⟩ := other_sound (w := w) hr hx hy .eql x y
        exact fin _ (.bool _) h1 h2
    · cases hr : otherEq (eqKind P t) a b with
      | none => simp [hr] at hb
      | some r =>
        simp [hr] at hb; subst hb
        obtain ⟨h1, h2, h3⟩ := other_sound (w := w) hr hx hy .neq x y
        exact fin _ (.bool _) h1 h3
    · cases hb

end
end Go.Bx

namespace Go.Bx
variable {P : Program}
section
variable {φ : Phi} {σ : AHeap} {w : World} {ρ ρ' : Operand → Value} {o : Oper} {v : Value} {σ' : AHeap}

theorem ARel.add {a a' : Addr} (h : ARel φ a a') (n : Nat) : ARel φ ⟨a.block, a.off + n, none⟩ (a'.add n) := by
  unfold ARel at *
  cases hs : φ a.block with
  | absent => simp [hs] at h
  | dead p => simp only [hs] at h; intro b hb; rw [h b hb, add_eq]
  | live b o k => simp only [hs] at h; subst h; simp only [add_eq, Nat.add_assoc]

theorem ok_un {op : UnOp} {t : TypeId} {x : Operand} (ho : o.op = .unOp op t x) (hx : VRel φ (ρ x) (ρ' x)) (hR : R P φ σ w) (h : op1 ρ σ (.un op x) = some (v, σ')) : OpOk P φ σ w ρ' o v σ' := by
  simp only [op1] at h
  cases hu : unA op (ρ x) with
  | none => simp [hu] at h
  | some u =>
    simp only [hu, Option.some.injEq, Prod.mk.injEq] at h
    obtain ⟨rfl, rfl⟩ := h
    generalize hp : ρ x = a at hu hx
    generalize hq : ρ' x = a' at hx
    unfold unA at hu
    split at hu
    · cases hx; simp at hu; subst hu
      exact .pure hR (.int _ _) (by simp [execOp, ho, hq, Op.unary, Op.intArith])
    · cases hx; simp [intBin] at hu; subst hu
      exact .pure hR (.int _ _) (by simp [execOp, ho, hq, Op.unary, Op.intBits])
    · cases hx; simp at hu; subst hu
      exact .pure hR (.bool _) (by simp [execOp, ho, hq, Op.unary])
    · cases hu

theorem ok_conv {s d : TypeId} {x : Operand} {j k : IntKind} (ho : o.op = .convert s d x) (hs : P.underlying s = some (.int j)) (hd : P.underlying d = some (.int k)) (hx : VRel φ (ρ x) (ρ' x)) (hR : R P φ σ w)
    (h : op1 ρ σ (.conv k x) = some (v, σ')) : OpOk P φ σ w ρ' o v σ' := by
  cases hp : ρ x with
  | int l n =>
    simp only [op1, hp, Option.some.injEq, Prod.mk.injEq] at h
    obtain ⟨rfl, rfl⟩ := h
    rw [hp] at hx
    generalize hq : ρ' x = a' at hx
    cases hx
    exact .pure hR (.int _ _) (by simp [execOp, ho, convert, run_underlying hs, run_underlying hd, hq, Conv.intToInt])
  | _ => simp [op1, hp] at h

theorem run_convert_str {s d : TypeId} (hs : P.underlying s = some .string) (hd : P.underlying d = some .string) {x : Value} {b : ByteArray} (hx : x = .string b) (w : World) : (convert s d x).run P w = .ok x w := by
  subst hx
  simp [convert, run_underlying hs, run_underlying hd]

theorem ok_strMv {s d : TypeId} {x : Operand} (ho : o.op = .convert s d x) (hs : P.underlying s = some .string) (hd : P.underlying d = some .string) (hx : VRel φ (ρ x) (ρ' x)) (hR : R P φ σ w)
    (h : op1 ρ σ (.strMv x) = some (v, σ')) : OpOk P φ σ w ρ' o v σ' := by
  cases hp : ρ x with
  | string b =>
    simp only [op1, hp, Option.some.injEq, Prod.mk.injEq] at h
    obtain ⟨rfl, rfl⟩ := h
    rw [hp] at hx
    generalize hq : ρ' x = a' at hx
    cases hx
    exact .pure hR (.string _) (by simp [execOp, ho, hq, run_convert_str hs hd rfl w])
  | _ => simp [op1, hp] at h

theorem ok_mkI {t : TypeId} {x : Operand} {d : TypeDesc} (ho : o.op = .makeInterface t x) (hd : P.underlying t = some d) (hn : ∀ ms, d ≠ .interface ms) (hx : VRel φ (ρ x) (ρ' x)) (hR : R P φ σ w)
    (h : op1 ρ σ (.mkI t x) = some (v, σ')) : OpOk P φ σ w ρ' o v σ' := by
  simp only [op1, Option.some.injEq, Prod.mk.injEq] at h
  obtain ⟨rfl, rfl⟩ := h
  refine .pure hR (.iface t hx) ?_
  cases d <;> first | exact absurd rfl (hn _) | simp [execOp, ho, Instr.makeInterface, run_underlying hd]

theorem vs_map : ∀ {l : List Operand}, (∀ x ∈ l, VRel φ (ρ x) (ρ' x)) → VsRel φ (l.map ρ) (l.map ρ')
  | [], _ => .nil
  | x :: l, h => .cons (h x (by simp)) (vs_map fun y hy => h y (by simp [hy]))

theorem ok_mkF {f : FuncId} {a b : Array Operand} (ho : o.op = .makeFunc (.func f) a b) (ha : ∀ x ∈ a.toList, VRel φ (ρ x) (ρ' x)) (hb : ∀ x ∈ b.toList, VRel φ (ρ x) (ρ' x)) (hR : R P φ σ w)
    (h : op1 ρ σ (.mkF f a.toList b.toList) = some (v, σ')) : OpOk P φ σ w ρ' o v σ' := by
  simp only [op1, Option.some.injEq, Prod.mk.injEq] at h
  obtain ⟨rfl, rfl⟩ := h
  refine .pure hR (.func f (xs' := a.map ρ') (ys' := b.map ρ') (by simpa using vs_map ha) (by simpa using vs_map hb)) ?_
  simp [execOp, ho, Instr.makeFunc]

theorem bvp_part {z : Nat → Option (Array Value)} {u : TypeId} {nm : String} {xs ys : Array Value} {p : Value} (h : FRel z (.func (.methodOf u nm) xs ys) p) (off : Nat) : ∃ a', p = .pointer (some a') ∧ FRel z (bvP (xs.toList.drop off)) (.pointer (some (a'.add off))) ∧
    ∀ n, FRel z (bvP ((xs.toList.drop off).take n)) (.pointer (some (a'.add off))) := by
  cases h with
  | bvp hz hs h1 hx =>
    rename_i mc a'
    obtain ⟨b, o, s⟩ := a'
    simp only at hs
    subst hs
    refine ⟨⟨b, o, none⟩, rfl, ?_⟩
    rw [add_eq]
    have hl := hx.length
    have hd := hx.drop off
    have hlen : ((mc.toList.drop o).take xs.toList.length).drop off = (mc.toList.drop (o + off)).take (xs.toList.drop off).length := by
      rw [List.drop_take, List.drop_drop, List.length_drop]
    rw [hlen] at hd
    refine ⟨.bvp (mc := mc) hz rfl (fun x hx => h1 x (List.mem_of_mem_drop (by simpa using hx))) (by simpa using hd), fun n => .bvp (mc := mc) hz rfl (fun x hx => h1 x (List.mem_of_mem_drop (List.mem_of_mem_take (by simpa using hx)))) ?_⟩
    have ht := hd.take n
    rw [List.take_take] at ht
    simpa using ht

theorem bvs_part {z : Nat → Option (Array Value)} {n : Nat} {xs ys : Array Value} {p : Value} (h : FRel z (.func (.yield n) xs ys) p) (h0 : 0 < n) (off : Nat) : ∃ a' c, p = .slice (some a') n c ∧ n ≤ c ∧ ∀ m, FRel z (bvP ((xs.toList.drop off).take m)) (.pointer (some (a'.add off))) := by
  cases h with
  | bvn => omega
  | bve => omega
  | bvs hc hz hs h1 hx => 
    refine ⟨_, _, rfl, hc, fun m => ?_⟩
    obtain ⟨a2, e, _, hp⟩ := bvp_part (.bvp hz hs h1 hx) off
    cases e
    exact hp m

theorem bvp_bvs {z : Nat → Option (Array Value)} {cs : List Value} {a : Addr} (h : FRel z (bvP cs) (.pointer (some a))) {n c : Nat} (hc : n ≤ c) : FRel z (bvS n cs) (.slice (some a) n c) := by
  cases h with
  | bvp hz hs h1 hx => exact .bvs hc hz hs h1 hx

/-- A part of what a slice or an array holds, as a slice. -/
theorem bv_cut {z : Nat → Option (Array Value)} {u : TypeId} {nm : String} {xs ys : Array Value} {a : Addr} (h : FRel z (.func (.methodOf u nm) xs ys) (.pointer (some a))) {l k s c c' : Nat} (hk : k ≤ c') (hne : k ≠ 0 → c ≠ l) :
    FRel z (bvS k ((xs.toList.drop (l * s)).take (k * s))) (.slice (some (if c = l then a else a.add (l * s))) k c') := by
  by_cases h0 : k = 0
  · subst h0
    simp only [Nat.zero_mul, List.take_zero]
    exact .bve _ _
  · rw [if_neg (hne h0)]
    obtain ⟨a', e, _, hr⟩ := bvp_part h (l * s)
    cases e
    exact bvp_bvs (hr (k * s)) hk

theorem ok_fieldAddr {t : TypeId} {x : Operand} {f : Nat} {fs : Array Field} {fl : Field} {s : Nat} (ho : o.op = .fieldAddr t x f) (ht : P.underlying t = some (.struct fs)) (hf : fs[f]? = some fl) (hs : sizeT P fl.type = some s) (hs0 : s ≠ 0)
    (hx : VRel φ (ρ x) (ρ' x)) (hR : R P φ σ w) (h : op1 ρ σ (.fieldAddr fl.offset x) = some (v, σ')) : OpOk P φ σ w ρ' o v σ' := by
  cases hp : ρ x with
  | pointer a =>
    cases a with
    | none => simp [op1, hp] at h
    | some a =>
      simp only [op1, hp, Option.some.injEq, Prod.mk.injEq] at h
      obtain ⟨rfl, rfl⟩ := h
      rw [hp] at hx
      generalize hq : ρ' x = a' at hx
      cases hx with
      | ptr ha => exact .pure hR (.ptr (ha.add _)) (by simp [execOp, ho, Instr.fieldAt, run_underlying ht, hf, hq, Instr.sureAddr, fieldPlace, run_sizeT hs, hs0])
  | func fn xs ys =>
    cases fn with
    | methodOf u nm =>
      rw [hp] at hx
      generalize hq : ρ' x = q at hx
      cases hx with
      | bvp hff =>
        simp only [op1, hp, Option.some.injEq, Prod.mk.injEq] at h
        obtain ⟨rfl, rfl⟩ := h
        obtain ⟨a', rfl, hr, _⟩ := bvp_part hff fl.offset
        exact .pure hR (.bvp hr) (by simp [execOp, ho, Instr.fieldAt, run_underlying ht, hf, hq, Instr.sureAddr, fieldPlace, run_sizeT hs, hs0])
    | _ => simp [op1, hp] at h
  | _ => simp [op1, hp] at h

theorem run_part {t : TypeId} {sz : Option Nat} (hs : oneOrAgg P t = some sz) {xs ys : Array Value} (h1 : ∀ x ∈ xs.toList, x.one1 = true) (hr : VsRel φ xs.toList ys.toList) {off : Nat} {v : Value}
    (h : partA sz xs.toList off = some v) (w : World) : ∃ v', (part t ys off).run P w = .ok v' w ∧ VRel φ v v' := by
  cases sz with
  | none =>
    simp only [partA] at h
    obtain ⟨v', hv', hrel⟩ := hr.get off v h
    rw [Array.getElem?_toList] at hv'
    exact ⟨v', by simp [part, run_isAgg_none hs, hv'], hrel⟩
  | some n =>
    simp only [partA] at h
    cases hb : Nat.ble (off + n) xs.toList.length with
    | false => rw [hb] at h; simp at h
    | true =>
      simp only [hb, cond_true, Option.some.injEq] at h
      subst h
      have : ys.extract off (off + n) = ((ys.toList.drop off).take n).toArray := by
        apply Array.ext'
        simp [Array.toList_extract, List.extract_eq_take_drop]
      refine ⟨.agg (ys.extract off (off + n)), by simp [part, (run_isAgg_some hs w).1, (run_isAgg_some hs w).2], ?_⟩
      rw [this]
      exact .agg (fun x hx => h1 x (List.mem_of_mem_drop (List.mem_of_mem_take (by simpa using hx)))) (by simpa using (hr.drop off).take n)

theorem ok_field {t : TypeId} {x : Operand} {f : Nat} {fs : Array Field} {fl : Field} {sz : Option Nat} (ho : o.op = .field t x f) (ht : P.underlying t = some (.struct fs)) (hf : fs[f]? = some fl) (hs : oneOrAgg P fl.type = some sz)
    (hx : VRel φ (ρ x) (ρ' x)) (hR : R P φ σ w) (h : op1 ρ σ (.field fl.offset sz x) = some (v, σ')) : OpOk P φ σ w ρ' o v σ' := by
  cases hp : ρ x with
  | agg cs =>
    simp only [op1, hp] at h
    cases hc : partA sz cs.toList fl.offset with
    | none => simp [hc] at h
    | some u =>
      simp only [hc, Option.some.injEq, Prod.mk.injEq] at h
      obtain ⟨rfl, rfl⟩ := h
      rw [hp] at hx
      generalize hq : ρ' x = a' at hx
      cases hx with
      | agg h1 hr =>
        obtain ⟨v', hrun, hrel⟩ := run_part hs h1 hr hc w
        exact .pure hR hrel (by simp [execOp, ho, Instr.field, run_underlying ht, hf, hq, asAgg, hrun])
  | _ => simp [op1, hp] at h

theorem ok_idxAddr_slice {t e : TypeId} {x i : Operand} {s : Nat} (ho : o.op = .indexAddr t x i) (ht : P.underlying t = some (.slice e)) (hs : sizeT P e = some s)
    (hx : VRel φ (ρ x) (ρ' x)) (hi : VRel φ (ρ i) (ρ' i)) (hR : R P φ σ w) (h : op1 ρ σ (.idxAddr none s x i) = some (v, σ')) : OpOk P φ σ w ρ' o v σ' := by
  cases hp : ρ x with
  | slice a len fl =>
    cases hj : ρ i with
    | int k j =>
      cases a with
      | none => simp [op1, hp, hj] at h
      | some a =>
        simp only [op1, hp, hj] at h
        split at h
        · rename_i hlt
          simp only [Option.some.injEq, Prod.mk.injEq] at h
          obtain ⟨rfl, rfl⟩ := h
          rw [hp] at hx
          rw [hj] at hi
          generalize hq : ρ' x = a' at hx
          generalize hq2 : ρ' i = b' at hi
          cases hi
          cases hx with
          | slc h0 hc h1 =>
            have ha := h0.resolve_left (by omega)
            exact .pure hR (.ptr (ha.add _)) (by simp [execOp, ho, Instr.indexAt, run_underlying ht, hq, hq2, asIntOf, hlt, run_sizeT hs])
        · cases h
    | _ => cases a <;> simp [op1, hp, hj] at h
  | func fn xs ys =>
    cases fn with
    | yield n =>
      cases hj : ρ i with
      | int k j =>
        simp only [op1, hp, hj] at h
        split at h
        · rename_i hlt
          simp only [Option.some.injEq, Prod.mk.injEq] at h
          obtain ⟨rfl, rfl⟩ := h
          rw [hp] at hx
          rw [hj] at hi
          generalize hq : ρ' x = a' at hx
          generalize hq2 : ρ' i = b' at hi
          cases hi
          cases hx with
          | bvs hff =>
            obtain ⟨a', c, rfl, hc, hr⟩ := bvs_part hff (by omega) (j.toNat * s)
            exact .pure hR (.bvp (hr s)) (by simp [execOp, ho, Instr.indexAt, run_underlying ht, hq, hq2, asIntOf, hlt, run_sizeT hs])
        · cases h
      | _ => simp [op1, hp, hj] at h
    | _ => simp [op1, hp] at h
  | _ => simp [op1, hp] at h

theorem ok_idxAddr_array {t e : TypeId} {n : Nat} {x i : Operand} {s : Nat} (ho : o.op = .indexAddr t x i) (ht : P.underlying t = some (.array n e)) (hs : sizeT P e = some s)
    (hx : VRel φ (ρ x) (ρ' x)) (hi : VRel φ (ρ i) (ρ' i)) (hR : R P φ σ w) (h : op1 ρ σ (.idxAddr (some n) s x i) = some (v, σ')) : OpOk P φ σ w ρ' o v σ' := by
  cases hp : ρ x with
  | pointer a =>
    cases hj : ρ i with
    | int k j =>
      cases a with
      | none => simp [op1, hp, hj] at h
      | some a =>
        simp only [op1, hp, hj] at h
        split at h
        · rename_i hlt
          simp only [Option.some.injEq, Prod.mk.injEq] at h
          obtain ⟨rfl, rfl⟩ := h
          rw [hp] at hx
          rw [hj] at hi
          generalize hq : ρ' x = a' at hx
          generalize hq2 : ρ' i = b' at hi
          cases hi
          cases hx with
          | ptr ha => exact .pure hR (.ptr (ha.add _)) (by simp [execOp, ho, Instr.indexAt, run_underlying ht, hq, hq2, asIntOf, hlt, run_sizeT hs, Instr.sureAddr])
        · cases h
    | _ => cases a <;> simp [op1, hp, hj] at h
  | func fn xs ys =>
    cases fn with
    | methodOf u nm =>
      cases hj : ρ i with
      | int k j =>
        simp only [op1, hp, hj] at h
        split at h
        · rename_i hlt
          simp only [Option.some.injEq, Prod.mk.injEq] at h
          obtain ⟨rfl, rfl⟩ := h
          rw [hp] at hx
          rw [hj] at hi
          generalize hq : ρ' x = a' at hx
          generalize hq2 : ρ' i = b' at hi
          cases hi
          cases hx with
          | bvp hff =>
            obtain ⟨a', rfl, _, hr⟩ := bvp_part hff (j.toNat * s)
            exact .pure hR (.bvp (hr s)) (by simp [execOp, ho, Instr.indexAt, run_underlying ht, hq, hq2, asIntOf, hlt, run_sizeT hs, Instr.sureAddr])
        · cases h
      | _ => simp [op1, hp, hj] at h
    | _ => simp [op1, hp] at h
  | _ => simp [op1, hp] at h

theorem ok_idx {t e : TypeId} {n : Nat} {x i : Operand} {s : Nat} {sz : Option Nat} (ho : o.op = .index t x i) (ht : P.underlying t = some (.array n e)) (hs : sizeT P e = some s) (hsz : oneOrAgg P e = some sz)
    (hx : VRel φ (ρ x) (ρ' x)) (hi : VRel φ (ρ i) (ρ' i)) (hR : R P φ σ w) (h : op1 ρ σ (.idx n s sz x i) = some (v, σ')) : OpOk P φ σ w ρ' o v σ' := by
  cases hp : ρ x with
  | agg cs =>
    cases hj : ρ i with
    | int k j =>
      simp only [op1, hp, hj] at h
      split at h
      · rename_i hlt
        cases hc : partA sz cs.toList (j.toNat * s) with
        | none => simp [hc] at h
        | some u =>
          simp only [hc, Option.some.injEq, Prod.mk.injEq] at h
          obtain ⟨rfl, rfl⟩ := h
          rw [hp] at hx
          rw [hj] at hi
          generalize hq : ρ' x = a' at hx
          generalize hq2 : ρ' i = b' at hi
          cases hi
          cases hx with
          | agg h1 hr =>
            obtain ⟨v', hrun, hrel⟩ := run_part hsz h1 hr hc w
            exact .pure hR hrel (by simp [execOp, ho, Instr.index, run_underlying ht, hq, hq2, asIntOf, hlt, run_sizeT hs, hrun])
      · cases h
    | _ => simp [op1, hp, hj] at h
  | _ => simp [op1, hp] at h

theorem ok_idxS {t : TypeId} {x i : Operand} (ho : o.op = .index t x i) (ht : P.underlying t = some .string)
    (hx : VRel φ (ρ x) (ρ' x)) (hi : VRel φ (ρ i) (ρ' i)) (hR : R P φ σ w) (h : op1 ρ σ (.idxS x i) = some (v, σ')) : OpOk P φ σ w ρ' o v σ' := by
  cases hp : ρ x with
  | string s =>
    cases hj : ρ i with
    | int k j =>
      simp only [op1, hp, hj] at h
      split at h
      · rename_i hlt
        cases hc : s.data.toList[j.toNat]? with
        | none => simp [hc] at h
        | some u =>
          simp only [hc, Option.some.injEq, Prod.mk.injEq] at h
          obtain ⟨rfl, rfl⟩ := h
          rw [hp] at hx
          rw [hj] at hi
          generalize hq : ρ' x = a' at hx
          generalize hq2 : ρ' i = b' at hi
          cases hi
          cases hx
          have hs : s[j.toNat]? = some u := by
            rw [Array.getElem?_toList] at hc
            obtain ⟨hlt', he⟩ := Array.getElem?_eq_some_iff.1 hc
            rw [getElem?_pos s j.toNat hlt']
            exact congrArg some he
          exact .pure hR (.int _ _) (by simp [execOp, ho, Instr.index, run_underlying ht, hq, hq2, asIntOf, hlt, hs])
      · cases h
    | _ => simp [op1, hp, hj] at h
  | _ => simp [op1, hp] at h

theorem ok_tassert {x : Operand} {xt t : TypeId} {ok : Bool} {d : TypeDesc} {i : TypeInfo} {z : Value} (ho : o.op = .typeAssert x xt t ok) (hd : P.underlying t = some d) (hn : ∀ ms, d ≠ .interface ms) (hi : P.info? t = some i) (hz : i.zero = some z) (hcl : closedV z = true)
    (hx : VRel φ (ρ x) (ρ' x)) (hR : R P φ σ w) (h : op1 ρ σ (.tassert x t z ok) = some (v, σ')) : OpOk P φ σ w ρ' o v σ' := by
  have hz0 := closed_rel φ hcl
  have hbad : VRel φ (.tuple #[z, .bool false]) (.tuple #[z, .bool false]) := .tuple (.cons hz0 (.cons (.bool _) .nil))
  cases hp : ρ x with
  | iface u y =>
    simp only [op1, hp] at h
    rw [hp] at hx
    generalize hq : ρ' x = a' at hx
    cases hx with
    | iface _ hy =>
      rename_i y'
      by_cases hut : u = t
      · subst hut
        simp only [Nat.beq_refl, cond_true, Option.some.injEq, Prod.mk.injEq] at h
        obtain ⟨rfl, rfl⟩ := h
        cases ok
        · refine .pure hR hy ?_
          cases d <;> first | exact absurd rfl (hn _) | simp [execOp, ho, Instr.typeAssert, run_underlying hd, hq]
        · refine .pure hR (.tuple (.cons hy (.cons (.bool true) .nil)) : VRel φ (.tuple #[y, .bool true]) (.tuple #[y', .bool true])) ?_
          cases d <;> first | exact absurd rfl (hn _) | simp [execOp, ho, Instr.typeAssert, run_underlying hd, hq]
      · rw [beqF hut] at h
        simp only [cond_false] at h
        cases ok
        · simp at h
        · simp only [cond_true, Option.some.injEq, Prod.mk.injEq] at h
          obtain ⟨rfl, rfl⟩ := h
          refine .pure hR hbad ?_
          cases d <;> first | exact absurd rfl (hn _) | simp [execOp, ho, Instr.typeAssert, run_underlying hd, hq, hut, run_zeroV hi hz]
  | nilIface =>
    simp only [op1, hp] at h
    rw [hp] at hx
    generalize hq : ρ' x = a' at hx
    cases hx
    cases ok
    · simp at h
    · simp only [cond_true, Option.some.injEq, Prod.mk.injEq] at h
      obtain ⟨rfl, rfl⟩ := h
      refine .pure hR hbad ?_
      cases d <;> first | exact absurd rfl (hn _) | simp [execOp, ho, Instr.typeAssert, run_underlying hd, hq, run_zeroV hi hz]
  | _ => simp [op1, hp] at h

theorem ok_ext {x : Operand} {i : Nat} (ho : o.op = .extract x i) (hx : VRel φ (ρ x) (ρ' x)) (hR : R P φ σ w) (h : op1 ρ σ (.ext x i) = some (v, σ')) : OpOk P φ σ w ρ' o v σ' := by
  cases hp : ρ x with
  | tuple vs =>
    simp only [op1, hp] at h
    cases hc : vs.toList[i]? with
    | none => simp [hc] at h
    | some u =>
      simp only [hc, Option.some.injEq, Prod.mk.injEq] at h
      obtain ⟨rfl, rfl⟩ := h
      rw [hp] at hx
      generalize hq : ρ' x = a' at hx
      cases hx with
      | tuple hr =>
        obtain ⟨v', hv', hrel⟩ := hr.get i u hc
        rw [Array.getElem?_toList] at hv'
        exact .pure hR hrel (by simp [execOp, ho, Instr.extract, hq, hv'])
  | _ => simp [op1, hp] at h

theorem ok_nilCheck {x : Operand} (ho : o.op = .nilCheck x) (hx : VRel φ (ρ x) (ρ' x)) (hR : R P φ σ w) (h : op1 ρ σ (.nilCheck x) = some (v, σ')) : OpOk P φ σ w ρ' o v σ' := by
  generalize hp : ρ x = a at hx
  generalize hq : ρ' x = a' at hx
  simp only [op1, hp] at h
  split at h
  · cases h
    cases hx with
    | ptr ha => exact .pure hR (.ptr ha) (by simp [execOp, ho, hq])
  · cases h
    cases hx with
    | bvp hf => cases hf with
      | bvp hz hs h1 hx => exact .pure hR (.bvp (.bvp hz hs h1 hx)) (by simp [execOp, ho, hq])
  · cases h
    cases hx with
    | func f h1 h2 => exact .pure hR (.func _ h1 h2) (by simp [execOp, ho, hq])
  · cases h
    cases hx with
    | iface t h1 => exact .pure hR (.iface _ h1) (by simp [execOp, ho, hq])
  · cases h

end
end Go.Bx

