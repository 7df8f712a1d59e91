/-
  BX, PART 14c: regions that draw their order: whatever order is drawn.
-/
import Derived.Test.YtcifmjnfigcpmaaGreatBxD
set_option linter.unusedSimpArgs false
set_option linter.unusedVariables false
set_option linter.unusedSectionVars false
namespace Go.Bx
variable {P : Program}

/-- What does not change while the region runs. -/
structure Ctx (P : Program) (cf : Nat → CallF) (ops : Array Oper) (nt : Nat) (cs : List AOper) (st : Nat → Tmps × AHeap) (hs : List (Nat × AHeap × AHeap)) (ids : List (Nat × List Nat)) : Prop where
  len : cs.length = ops.size
  spec : ∀ (i : Nat) (o : Oper) (c : AOper), ops[i]? = some o → cs[i]? = some c → compOp P o.op = some c.op ∧ (∀ x ∈ o.op.operands.toList, okOpd x = true) ∧ (∀ d, o.dst = some d → d < nt) ∧ c.dst = o.dst ∧ c.guard = o.guard.map fun (j, w) => (dstOf ops.toList j, w)
  tmps : ∀ (i j : Nat) (o p : Oper) (t : Tmp), ops[i]? = some o → ops[j]? = some p → i ≠ j → t ∈ namesOf ops.toList o → p.dst = some t → ordered (masks ops.toList) i j = true
  wrs : ∀ (i j : Nat) (c p : AOper), cs[i]? = some c → cs[j]? = some p → isWriter c.op = true → isWriter p.op = true → ordered (masks ops.toList) i j = true
  chk : ∀ (i j : Nat) (c p : AOper), cs[i]? = some c → cs[j]? = some p → isLoad c.op = true → j ∉ c.chk → isWriter p.op = true → ordered (masks ops.toList) i j = true
  edges : ∀ (j : Nat) (o : Oper), ops[j]? = some o → ∀ e ∈ o.after.toList, Region.binds .any e = true → e.on < j
  tr : Trace cf cs 0 st hs ids
  ok : ∀ i ∈ ids, i.1 < (st 0).2.size ∧ ∀ g ∈ hs, g.1 ∈ i.2 → g.2.2.get i.1 = g.2.1.get i.1
  snd : ∀ k, SndF P (cf k)

section
variable {cf : Nat → CallF} {ops : Array Oper} {nt : Nat} {cs : List AOper} {st : Nat → Tmps × AHeap} {hs : List (Nat × AHeap × AHeap)} {ids : List (Nat × List Nat)}

theorem Ctx.get (K : Ctx P cf ops nt cs st hs ids) {i : Nat} (hi : i < ops.size) : ∃ o c, ops[i]? = some o ∧ cs[i]? = some c :=
  ⟨ops[i], cs[i]'(by rw [K.len]; exact hi), by simp [hi], List.getElem?_eq_getElem _⟩

theorem Ctx.size1 (K : Ctx P cf ops nt cs st hs ids) {i : Nat} (hi : i < ops.size) : (st i).2.size ≤ (st (i + 1)).2.size := by
  obtain ⟨o, c, ho, hc⟩ := K.get hi
  rcases K.tr.step i c hc with ⟨_, v, h2, _⟩ | ⟨_, h2, _⟩
  · exact op2_size (fun f args σ v σ' h => (K.snd _ f args σ v σ' h).2.1) h2
  · rw [h2]; exact Nat.le_refl _

theorem Ctx.sizes (K : Ctx P cf ops nt cs st hs ids) {i j : Nat} (hij : i ≤ j) (hj : j ≤ ops.size) : (st i).2.size ≤ (st j).2.size := by
  induction j with
  | zero => obtain rfl : i = 0 := by omega
            exact Nat.le_refl _
  | succ j ih =>
    by_cases h : i = j + 1
    · subst h; exact Nat.le_refl _
    · exact Nat.le_trans (ih (by omega) (by omega)) (K.size1 (by omega))

/-- An operation that is no writer keeps the heap, or adds a block. -/
theorem Ctx.quiet (K : Ctx P cf ops nt cs st hs ids) {i : Nat} {c : AOper} (hc : cs[i]? = some c) (hw : isWriter c.op = false) : (st (i + 1)).2 = (st i).2 ∨ ∃ ob, (st (i + 1)).2 = (st i).2.push ob := by
  rcases K.tr.step i c hc with ⟨_, v, h2, _⟩ | ⟨_, h2, _⟩
  · have hnc : isCallA c.op = false := by cases hcop : c.op <;> simp_all [isWriter, isCallA]
    rw [op2_op1 hnc] at h2
    rcases op_indep hw h2 rfl (fun _ => rfl) with ⟨h, _⟩ | ⟨ob, h, _⟩
    · exact .inl h
    · exact .inr ⟨ob, h⟩
  · exact .inl h2

theorem Ctx.quiet_get (K : Ctx P cf ops nt cs st hs ids) {i : Nat} {c : AOper} (hc : cs[i]? = some c) (hw : isWriter c.op = false) {id : Nat} (hid : id < (st i).2.size) : (st (i + 1)).2.get id = (st i).2.get id := by
  rcases K.quiet hc hw with h | ⟨ob, h⟩
  · rw [h]
  · rw [h, AHeap.get_push, if_neg (by omega)]

/-- Between writers nothing changes. -/
theorem Ctx.same (K : Ctx P cf ops nt cs st hs ids) {q1 q2 : Nat} (h12 : q1 ≤ q2) (h2 : q2 ≤ ops.size) (hno : ∀ (k : Nat) (c : AOper), q1 ≤ k → k < q2 → cs[k]? = some c → isWriter c.op = false) {id : Nat} (hid : id < (st q1).2.size) :
    (st q2).2.get id = (st q1).2.get id := by
  induction q2 with
  | zero => obtain rfl : q1 = 0 := by omega
            rfl
  | succ q ih =>
    by_cases h : q1 = q + 1
    · subst h; rfl
    · obtain ⟨o, c, ho, hc⟩ := K.get (show q < ops.size by omega)
      rw [K.quiet_get hc (hno q c (by omega) (by omega) hc) (Nat.lt_of_lt_of_le hid (K.sizes (by omega) (by omega))), ih (by omega) (by omega) (fun k c h1 h2 => hno k c h1 (by omega))]

theorem Ctx.same_tmp (K : Ctx P cf ops nt cs st hs ids) {q1 q2 : Nat} (h12 : q1 ≤ q2) (h2 : q2 ≤ ops.size) {t : Tmp} (hno : ∀ (k : Nat) (p : Oper), q1 ≤ k → k < q2 → ops[k]? = some p → p.dst ≠ some t) : (st q2).1.at t = (st q1).1.at t := by
  induction q2 with
  | zero => obtain rfl : q1 = 0 := by omega
            rfl
  | succ q ih =>
    by_cases h : q1 = q + 1
    · subst h; rfl
    · obtain ⟨o, c, ho, hc⟩ := K.get (show q < ops.size by omega)
      have hd := (K.spec q o c ho hc).2.2.2.1
      have hne := hno q o (by omega) (by omega) ho
      have hput : ∀ v, (putA (st q).1 c.dst v).at t = (st q).1.at t := by
        intro v
        unfold putA
        cases hcd : c.dst with
        | none => rfl
        | some d =>
          simp only [at_set]
          rw [if_neg (fun e => hne (by rw [← hd, hcd, e]))]
      have hst : (st (q + 1)).1.at t = (st q).1.at t := by
        rcases K.tr.step q c hc with ⟨_, v, _, h3, _⟩ | ⟨_, _, h3⟩ <;> rw [h3, hput]
      rw [hst, ih (by omega) (by omega) (fun k p h1 h2 => hno k p h1 (by omega))]

/-- A block that is checked doesn't change at the writers that may come either way. -/
theorem Ctx.checked (K : Ctx P cf ops nt cs st hs ids) {id : Nat} {js : List Nat} (hid : (id, js) ∈ ids) {q1 : Nat} : ∀ q, q1 ≤ q → q ≤ ops.size → (∀ (k : Nat) (c : AOper), q1 ≤ k → k < q → cs[k]? = some c → isWriter c.op = true → k ∈ js) → (st q).2.get id = (st q1).2.get id
  | 0, h, _, _ => by obtain rfl : q1 = 0 := by omega
                     rfl
  | q + 1, h1, hq, hno => by
    by_cases he : q1 = q + 1
    · subst he; rfl
    · have ih := K.checked hid q (by omega) (by omega) (fun k c h1 h2 => hno k c h1 (by omega))
      obtain ⟨o, c, ho, hc⟩ := K.get (show q < ops.size by omega)
      have hlt : id < (st q).2.size := Nat.lt_of_lt_of_le (K.ok _ hid).1 (K.sizes (Nat.zero_le _) (by omega))
      cases hw : isWriter c.op with
      | false => rw [K.quiet_get hc hw hlt, ih]
      | true =>
        rcases K.tr.step q c hc with ⟨_, v, _, _, h4, _⟩ | ⟨_, h4, _⟩
        · have := (K.ok _ hid).2 _ (h4 hw) (by simpa using hno q c (by omega) (by omega) hc hw)
          rw [← ih]; exact this
        · rw [h4, ih]

/-! ### The invariant -/

def Done (listed : Array Bool) (i : Nat) : Prop := listed.getD i false = true

structure Inv (P : Program) (ops : Array Oper) (nt : Nat) (cs : List AOper) (st : Nat → Tmps × AHeap) (φ0 : Phi) (w0 : World) (D : List Deferred) (listed : Array Bool) (a : Act) (w : World) (φ : Phi) (m : Nat) : Prop where
  size : listed.size = ops.size
  closed : ∀ (j : Nat) (o : Oper), ops.toList[j]? = some o → Done listed j → ∀ e ∈ o.after.toList, Region.binds .any e = true → Done listed e.on
  mle : m ≤ ops.size
  mw : ∀ (k : Nat) (c : AOper), cs[k]? = some c → isWriter c.op = true → (Done listed k ↔ k < m)
  mlast : m = 0 ∨ ∃ (k : Nat) (c : AOper), m = k + 1 ∧ cs[k]? = some c ∧ isWriter c.op = true
  dom : ∀ id, φ id ≠ .absent → id < (st 0).2.size ∨ ∃ j, Done listed j ∧ j < ops.size ∧ (st j).2.size ≤ id ∧ id < (st (j + 1)).2.size
  le : Le φ0 φ
  live : ∀ id b o k, φ id = .live b o k → ∃ q obj c e fr, m ≤ q ∧ q ≤ ops.size ∧ id < (st q).2.size ∧ (q = m ∨ ∃ j, q = j + 1 ∧ (st j).2.size ≤ id) ∧ (st q).2.get id = some obj ∧ w.heap[b]? = some (.cells c e fr) ∧
    (∀ (j : Nat) (v : Value), obj.cells[j]? = some v → v.one1 = true ∧ ∃ v' : Value, c[o + j]? = some v' ∧ VRel (res φ (st q).2.size) v v') ∧
    (obj.own = true → (o = 0 ∧ fr = (0, 0) ∧ e = obj.elem ∧ (∀ n, k = some n → c.size = n * P.cellsOf e)) ∧ (Owned φ0 (st 0).2 b ∨ w0.heap.size ≤ b) ∧ ∀ id2 b2 o2 k2, φ id2 = .live b2 o2 k2 → id2 ≠ id → b2 ≠ b)
  dead : ∀ id p, φ id = .dead p → id < (st m).2.size ∧ (st m).2.get id = none
  absent : ∀ id, φ id = .absent → ∀ q1 q2, q1 ≤ q2 → q2 ≤ m → id < (st q1).2.size → (st q2).2.get id = (st q1).2.get id
  zero : ∀ id, id < (st 0).2.size → φ0 id = .absent → φ id = .absent
  new : ∀ id b o k, φ0 id = .absent → φ id = .live b o k → Owned φ0 (st 0).2 b ∨ w0.heap.size ≤ b
  keep : ∀ b, b < w0.heap.size → ¬ Owned φ0 (st 0).2 b → w.heap[b]? = w0.heap[b]?
  grow : w0.heap.size ≤ w.heap.size
  env : w.os = w0.os ∧ w.output = w0.output ∧ w.tape = w0.tape
  tm : ∀ t, ∃ q, q ≤ ops.size ∧ ((q = 0 ∧ ∀ (j : Nat) (p : Oper), ops[j]? = some p → p.dst = some t → ¬ Done listed j) ∨
      ∃ (j : Nat) (p : Oper), q = j + 1 ∧ ops[j]? = some p ∧ p.dst = some t ∧ Done listed j ∧ ∀ (j' : Nat) (p' : Oper), ops[j']? = some p' → p'.dst = some t → Done listed j' → j' ≤ j) ∧
    VRel (res φ (st q).2.size) ((st q).1.at t) (a.tmps.getD t undef)
  tsz : nt ≤ a.tmps.size
  df : a.defers = D
  froz : ∀ b c, φ.fz b = some c → ∃ e fr, w.heap[b]? = some (.cells c e fr)
  nofz : ∀ id b o k q obj, φ id = .live b o k → m ≤ q → q ≤ ops.size → id < (st q).2.size → (q = m ∨ ∃ j, q = j + 1 ∧ (st j).2.size ≤ id) → (st q).2.get id = some obj → obj.own = true → φ.fz b = none
  fz : ∀ b c, φ.fz b = some c → φ0.fz b = some c ∨ Owned φ0 (st 0).2 b ∨ w0.heap.size ≤ b

variable {φ0 : Phi} {w0 : World} {D : List Deferred} {listed : Array Bool} {a : Act} {w : World} {φ : Phi} {m : Nat}

theorem R.le_res {σ : AHeap} (hR : R P φ σ w) : Le φ (res φ σ.size) := by
  refine ⟨fun i hi => .inl ?_, FLe.refl _⟩
  simp only [res_st]
  exact if_pos (hR.id_lt hi)

theorem Inv.start (K : Ctx P cf ops nt cs st hs ids) (hR : R P φ0 (st 0).2 w0) (hT : TRel φ0 (st 0).1 a.tmps) (hsz : nt ≤ a.tmps.size) (hd : a.defers = D) :
    Inv P ops nt cs st φ0 w0 D (Array.replicate ops.size false) a w0 φ0 0 where
  size := by simp
  closed j o _ h := by simp [Done, Array.getD_eq_getD_getElem?, Array.getElem?_replicate] at h; split at h <;> simp at h
  mle := Nat.zero_le _
  mw k c _ _ := by
    constructor
    · intro h; simp [Done, Array.getD_eq_getD_getElem?, Array.getElem?_replicate] at h; split at h <;> simp at h
    · omega
  mlast := .inl rfl
  dom id h := .inl (hR.id_lt h)
  le := Le.refl _
  live id b o k h := by
    obtain ⟨obj, c, e, fr, h1, h2, h3, h4⟩ := hR.live id b o k h
    have hlt := hR.id_lt (i := id) (by rw [h]; simp)
    refine ⟨0, obj, c, e, fr, Nat.le_refl _, Nat.zero_le _, hlt, .inl rfl, h1, h2, ?_, fun ho => ⟨h4 ho, .inl ⟨id, o, k, obj, h, h1, ho⟩, fun id2 b2 o2 k2 h2 hne => Ne.symm (hR.excl id id2 b o k b2 o2 k2 obj h h2 h1 ho (Ne.symm hne))⟩⟩
    intro j v hj
    obtain ⟨h5, v', h6, h7⟩ := h3 j v hj
    refine ⟨h5, v', h6, ?_⟩
    exact h7.mono (hR.le_res)
  dead id p h := ⟨hR.id_lt (by rw [h]; simp), hR.dead id p h⟩
  absent id _ q1 q2 h1 h2 _ := by obtain rfl : q1 = q2 := by omega
                                  rfl
  zero id _ h := h
  new id b o k h1 h2 := by rw [h1] at h2; cases h2
  keep b _ _ := rfl
  grow := Nat.le_refl _
  env := ⟨rfl, rfl, rfl⟩
  tm t := by
    refine ⟨0, Nat.zero_le _, .inl ⟨rfl, fun j p _ _ h => ?_⟩, ?_⟩
    · simp [Done, Array.getD_eq_getD_getElem?, Array.getElem?_replicate] at h; split at h <;> simp at h
    · exact (hT t).mono (hR.le_res)
  tsz := hsz
  df := hd
  froz := hR.froz
  nofz id b o k q obj h _ _ _ hq hg ho := by
    rcases hq with rfl | ⟨j, rfl, hj⟩
    · exact hR.nofz id b o k obj h hg ho
    · have := hR.id_lt (i := id) (by rw [h]; simp)
      have := K.sizes (Nat.zero_le j) (by omega)
      omega
  fz b c h := .inl h

/-- What is ordered before an operation that may come up is done; what is ordered behind it is not. -/
theorem Inv.order (I : Inv P ops nt cs st φ0 w0 D listed a w φ m) {i : Nat} {o : Oper} (ho : ops[i]? = some o) (hun : ¬ Done listed i) (hr : ∀ e ∈ o.after.toList, Region.binds .any e = true → Done listed e.on) {j : Nat} {p : Oper} (hp : ops[j]? = some p) (hij : i ≠ j)
    (hord : ordered (masks ops.toList) i j = true) : Done listed j ↔ j < i := by
  have ho' : ops.toList[i]? = some o := by simpa using ho
  have hp' : ops.toList[j]? = some p := by simpa using hp
  unfold ordered at hord
  by_cases hlt : i < j
  · rw [show Nat.blt i j = true by simpa [Nat.blt_eq] using hlt] at hord
    simp only [cond_true] at hord
    constructor
    · intro hd
      exact absurd (mask_closed (S := Done listed) I.closed j p hp' (fun e he hb => I.closed j p hp' hd e he hb) i hord) hun
    · omega
  · rw [show Nat.blt i j = false by cases h : Nat.blt i j with | false => rfl | true => exact absurd (by simpa [Nat.blt_eq] using h) hlt] at hord
    simp only [cond_false, Bool.or_eq_true] at hord
    constructor
    · intro _; omega
    · intro _
      rcases hord with hord | hord
      · exact absurd (Nat.eq_of_beq_eq_true hord) hij
      · exact mask_closed (S := Done listed) I.closed i o ho' hr j hord

theorem Done.set {listed : Array Bool} {i j : Nat} (hi : i < listed.size) : Done (listed.setIfInBounds i true) j ↔ (j = i ∨ Done listed j) := by
  unfold Done
  by_cases h : j = i
  · subst h; simp [hi]
  · rw [getD_set_ne false (Ne.symm h)]; simp [h]

/-- A temporary that an operation names holds, when the operation comes up, what it held there in text order. -/
theorem Inv.tmp (K : Ctx P cf ops nt cs st hs ids) (I : Inv P ops nt cs st φ0 w0 D listed a w φ m) {i : Nat} {o : Oper} (ho : ops[i]? = some o) (hun : ¬ Done listed i) (hr : ∀ e ∈ o.after.toList, Region.binds .any e = true → Done listed e.on) {t : Tmp} (ht : t ∈ namesOf ops.toList o) :
    VRel (res φ (st i).2.size) ((st i).1.at t) (a.tmps.getD t undef) := by
  have hil : i < ops.size := (Array.getElem?_eq_some_iff.1 ho).1
  have hord : ∀ (j : Nat) (p : Oper), ops[j]? = some p → p.dst = some t → j ≠ i → (Done listed j ↔ j < i) := fun j p hp hd hne => I.order ho hun hr hp (Ne.symm hne) (K.tmps i j o p t ho hp (Ne.symm hne) ht hd)
  obtain ⟨q, hq, hcase, hv⟩ := I.tm t
  have hqi : q ≤ i ∧ ∀ (k : Nat) (p : Oper), q ≤ k → k < i → ops[k]? = some p → p.dst ≠ some t := by
    rcases hcase with ⟨rfl, hno⟩ | ⟨j, p, rfl, hp, hpd, hdone, hmax⟩
    · refine ⟨Nat.zero_le _, fun k p _ hk hp hd => ?_⟩
      exact hno k p hp hd ((hord k p hp hd (by omega)).2 hk)
    · have hji : j ≠ i := fun e => hun (e ▸ hdone)
      have hlt := (hord j p hp hpd hji).1 hdone
      refine ⟨hlt, fun k p' hk1 hk2 hp' hd' => ?_⟩
      have := hmax k p' hp' hd' ((hord k p' hp' hd' (by omega)).2 hk2)
      omega
  rw [K.same_tmp hqi.1 (by omega) hqi.2]
  exact hv.mono (res_le (K.sizes hqi.1 (by omega)))

end
end Go.Bx

namespace Go.Bx
variable {P : Program} {cf : Nat → CallF} {ops : Array Oper} {nt : Nat} {cs : List AOper} {st : Nat → Tmps × AHeap} {hs : List (Nat × AHeap × AHeap)} {ids : List (Nat × List Nat)}
variable {φ0 : Phi} {w0 : World} {D : List Deferred} {listed : Array Bool} {a : Act} {w : World} {φ : Phi} {m : Nat}

theorem names_opd {o : Oper} {x : Operand} {t : Tmp} (hx : x ∈ o.op.operands.toList) (e : x = .tmp t) (l : List Oper) : t ∈ namesOf l o := by
  unfold namesOf
  simp only [List.mem_append]
  refine .inr (.inl ?_)
  subst e
  generalize o.op.operands.toList = xs at hx
  induction xs with
  | nil => cases hx
  | cons y ys ih =>
    cases hx with
    | head => simp [opdTmps]
    | tail _ h => cases y <;> simp [opdTmps, ih h]

/-- The operands of an operation that comes up. -/
theorem Inv.opds (K : Ctx P cf ops nt cs st hs ids) (I : Inv P ops nt cs st φ0 w0 D listed a w φ m) {i : Nat} {o : Oper} {c : AOper} (ho : ops[i]? = some o) (hc : cs[i]? = some c) (hun : ¬ Done listed i) (hr : ∀ e ∈ o.after.toList, Region.binds .any e = true → Done listed e.on) :
    ∀ x ∈ o.op.operands.toList, VRel (res φ (st i).2.size) (opd (st i).1 x) (a.eval x) := by
  intro x hx
  have hok := (K.spec i o c ho hc).2.1 x hx
  cases x with
  | tmp t => exact I.tmp K ho hun hr (names_opd hx rfl _)
  | const v => exact closed_rel _ hok
  | global g => simp [okOpd] at hok
  | func f => exact .func f .nil .nil

theorem Inv.wanted (K : Ctx P cf ops nt cs st hs ids) (I : Inv P ops nt cs st φ0 w0 D listed a w φ m) {i : Nat} {o : Oper} {c : AOper} (ho : ops[i]? = some o) (hc : cs[i]? = some c) (hun : ¬ Done listed i) (hr : ∀ e ∈ o.after.toList, Region.binds .any e = true → Done listed e.on) :
    ∀ b, wantedA (st i).1 c.guard = some b → Region.wanted o (yielded ops a.tmps) = b := by
  rw [(K.spec i o c ho hc).2.2.2.2]
  refine wanted_rel (φ := res φ (st i).2.size) (fun j w d hg hd => I.tmp K ho hun hr ?_)
  unfold namesOf
  simp only [List.mem_append]
  refine .inr (.inr ?_)
  rw [hg]
  simp [hd]

/-- The parts of the invariant that an operation changes alike, whatever it is. -/
theorem Inv.tm_next (K : Ctx P cf ops nt cs st hs ids) (I : Inv P ops nt cs st φ0 w0 D listed a w φ m) {i : Nat} {o : Oper} {c : AOper} (ho : ops[i]? = some o) (hc : cs[i]? = some c) (hun : ¬ Done listed i) (hr : ∀ e ∈ o.after.toList, Region.binds .any e = true → Done listed e.on)
    {φ' : Phi} (hle : Le φ φ') {v v' : Value} (hput : (st (i + 1)).1 = putA (st i).1 c.dst v) (hv : VRel (res φ' (st (i + 1)).2.size) v v') :
    ∀ t, ∃ q, q ≤ ops.size ∧ ((q = 0 ∧ ∀ (j : Nat) (p : Oper), ops[j]? = some p → p.dst = some t → ¬ Done (listed.setIfInBounds i true) j) ∨
      ∃ (j : Nat) (p : Oper), q = j + 1 ∧ ops[j]? = some p ∧ p.dst = some t ∧ Done (listed.setIfInBounds i true) j ∧ ∀ (j' : Nat) (p' : Oper), ops[j']? = some p' → p'.dst = some t → Done (listed.setIfInBounds i true) j' → j' ≤ j) ∧
    VRel (res φ' (st q).2.size) ((st q).1.at t) ((a.put o.dst v').tmps.getD t undef) := by
  intro t
  have hil : i < ops.size := (Array.getElem?_eq_some_iff.1 ho).1
  have hsz : i < listed.size := by rw [I.size]; exact hil
  have hcd := (K.spec i o c ho hc).2.2.2.1
  by_cases hd : o.dst = some t
  · refine ⟨i + 1, by omega, .inr ⟨i, o, rfl, ho, hd, (Done.set hsz).2 (.inl rfl), fun j' p' hp' hd' hj' => ?_⟩, ?_⟩
    · by_cases hne : j' = i
      · omega
      · have hdone := ((Done.set hsz).1 hj').resolve_left hne
        have hn : t ∈ namesOf ops.toList o := by unfold namesOf; simp [hd]
        have := (I.order ho hun hr hp' (Ne.symm hne) (K.tmps i j' o p' t ho hp' (Ne.symm hne) hn hd')).1 hdone
        omega
    · have hlt : t < a.tmps.size := Nat.lt_of_lt_of_le ((K.spec i o c ho hc).2.2.1 t hd) I.tsz
      rw [hput, hcd, hd]
      simp only [putA, Act.put, at_set, if_true, getD_set _ _ _ _ hlt]
      exact hv
  · obtain ⟨q, hq, hcase, hvq⟩ := I.tm t
    refine ⟨q, hq, ?_, ?_⟩
    · rcases hcase with ⟨rfl, hno⟩ | ⟨j, p, rfl, hp, hpd, hdone, hmax⟩
      · refine .inl ⟨rfl, fun j p hp hpd hj => ?_⟩
        rcases (Done.set hsz).1 hj with rfl | hj
        · rw [ho] at hp; cases hp; exact hd hpd
        · exact hno j p hp hpd hj
      · refine .inr ⟨j, p, rfl, hp, hpd, (Done.set hsz).2 (.inr hdone), fun j' p' hp' hpd' hj' => ?_⟩
        rcases (Done.set hsz).1 hj' with rfl | hj'
        · rw [ho] at hp'; cases hp'; exact absurd hpd' hd
        · exact hmax j' p' hp' hpd' hj'
    · have : (a.put o.dst v').tmps.getD t undef = a.tmps.getD t undef := by
        cases hod : o.dst with
        | none => rfl
        | some d =>
          have hlt : d < a.tmps.size := Nat.lt_of_lt_of_le ((K.spec i o c ho hc).2.2.1 d hod) I.tsz
          simp only [Act.put, getD_set _ _ _ _ hlt]
          rw [if_neg (fun e => hd (by rw [hod, e]))]
      rw [this]
      exact hvq.mono (res_mono hle _)

theorem Inv.closed_next (I : Inv P ops nt cs st φ0 w0 D listed a w φ m) {i : Nat} {o : Oper} (ho : ops[i]? = some o) (hr : ∀ e ∈ o.after.toList, Region.binds .any e = true → Done listed e.on) :
    ∀ (j : Nat) (p : Oper), ops.toList[j]? = some p → Done (listed.setIfInBounds i true) j → ∀ e ∈ p.after.toList, Region.binds .any e = true → Done (listed.setIfInBounds i true) e.on := by
  intro j p hp hj e he hb
  have hil : i < ops.size := (Array.getElem?_eq_some_iff.1 ho).1
  have hsz : i < listed.size := by rw [I.size]; exact hil
  rcases (Done.set hsz).1 hj with rfl | hj
  · have : ops.toList[j]? = some o := by simpa using ho
    rw [this] at hp; cases hp
    exact (Done.set hsz).2 (.inr (hr e he hb))
  · exact (Done.set hsz).2 (.inr (I.closed j p hp hj e he hb))

/-- A writer comes up: the heap stands as it stood in text order. -/
theorem Inv.heapAt (K : Ctx P cf ops nt cs st hs ids) (I : Inv P ops nt cs st φ0 w0 D listed a w φ m) {i : Nat} {c : AOper} (hil : i < ops.size) (hmi : m ≤ i) (hno : ∀ (k : Nat) (p : AOper), m ≤ k → k < i → cs[k]? = some p → isWriter p.op = false) :
    R P (res φ (st i).2.size) (st i).2 w := by
  have hget : ∀ id b o k, φ id = .live b o k → id < (st i).2.size → ∃ obj c e fr, (st i).2.get id = some obj ∧ w.heap[b]? = some (.cells c e fr) ∧
      (∀ (j : Nat) (v : Value), obj.cells[j]? = some v → v.one1 = true ∧ ∃ v' : Value, c[o + j]? = some v' ∧ VRel (res φ (st i).2.size) v v') ∧
      (obj.own = true → (o = 0 ∧ fr = (0, 0) ∧ e = obj.elem ∧ (∀ n, k = some n → c.size = n * P.cellsOf e)) ∧ (Owned φ0 (st 0).2 b ∨ w0.heap.size ≤ b) ∧ ∀ id2 b2 o2 k2, φ id2 = .live b2 o2 k2 → id2 ≠ id → b2 ≠ b) := by
    intro id b o k hl hlt
    obtain ⟨q, obj, c, e, fr, hmq, hqn, hidq, hcase, hg, hb, hcells, hown⟩ := I.live id b o k hl
    have hqi : q ≤ i := by
      rcases hcase with rfl | ⟨j, rfl, hj⟩
      · exact hmi
      · rcases Nat.lt_or_ge j i with h | h
        · exact h
        · have := K.sizes h (by omega)
          omega
    refine ⟨obj, c, e, fr, ?_, hb, fun j v hj => ?_, hown⟩
    · rw [K.same hqi (by omega) (fun k p h1 h2 => hno k p (by omega) h2) hidq]; exact hg
    · obtain ⟨h1, v', h2, h3⟩ := hcells j v hj
      exact ⟨h1, v', h2, h3.mono (res_le (K.sizes hqi (by omega)))⟩
  refine ⟨fun id hid => by simp only [res_st]; rw [if_neg (by omega)], ?_, ?_, ?_, I.froz, ?_⟩
  rotate_left 3
  · intro id b o k obj hl hg ho
    simp only [res_st] at hl
    split at hl
    · rename_i hlt
      obtain ⟨q, obj', c, e, fr, hmq, hqn, hidq, hcase, hg', hb, _⟩ := I.live id b o k hl
      have hqi : q ≤ i := by
        rcases hcase with rfl | ⟨j, rfl, hj⟩
        · exact hmi
        · rcases Nat.lt_or_ge j i with h | h
          · exact h
          · have := K.sizes h (by omega)
            omega
      have : (st i).2.get id = some obj' := by rw [K.same hqi (by omega) (fun k p h1 h2 => hno k p (by omega) h2) hidq]; exact hg'
      rw [hg] at this; cases this
      exact I.nofz id b o k q obj hl hmq hqn hidq hcase hg' ho
    · cases hl
  · intro id p hd
    simp only [res_st] at hd
    split at hd
    · obtain ⟨h1, h2⟩ := I.dead id p hd
      rw [K.same hmi (by omega) hno h1]; exact h2
    · cases hd
  · intro id b o k hl
    simp only [res_st] at hl
    split at hl
    · rename_i hlt
      obtain ⟨obj, c, e, fr, h1, h2, h3, h4⟩ := hget id b o k hl hlt
      exact ⟨obj, c, e, fr, h1, h2, h3, fun ho => (h4 ho).1⟩
    · cases hl
  · intro id id2 b o k b2 o2 k2 obj hl hl2 hg ho hne
    simp only [res_st] at hl hl2
    split at hl
    · rename_i hlt
      split at hl2
      · obtain ⟨obj', c, e, fr, h1, h2, h3, h4⟩ := hget id b o k hl hlt
        rw [hg] at h1; cases h1
        exact Ne.symm ((h4 ho).2.2 id2 b2 o2 k2 hl2 (Ne.symm hne))
      · cases hl2
    · cases hl

/-- Two relations, one below a bound, one above. -/
def glue (φ' φ : Phi) (n : Nat) : Phi := ⟨fun i => if i < n then φ' i else φ i, φ'.fz⟩
theorem glue_st (φ' φ : Phi) (n i : Nat) : (glue φ' φ n) i = if i < n then φ' i else φ i := rfl

theorem Inv.next_writer (K : Ctx P cf ops nt cs st hs ids) (I : Inv P ops nt cs st φ0 w0 D listed a w φ m) (hbnd0 : ∀ i, (st 0).2.size ≤ i → φ0 i = .absent) {i : Nat} {o : Oper} {c : AOper} (ho : ops[i]? = some o) (hc : cs[i]? = some c) (hun : ¬ Done listed i) (hr : ∀ e ∈ o.after.toList, Region.binds .any e = true → Done listed e.on)
    (hw : isWriter c.op = true) (hmi : m ≤ i) (hno : ∀ (k : Nat) (p : AOper), m ≤ k → k < i → cs[k]? = some p → isWriter p.op = false) {φ' : Phi} {w' : World} (hp : Post P (res φ (st i).2.size) (st i).2 w φ' (st (i + 1)).2 w') {v v' : Value}
    (hput : (st (i + 1)).1 = putA (st i).1 c.dst v) (hv : VRel φ' v v') : Inv P ops nt cs st φ0 w0 D (listed.setIfInBounds i true) (a.put o.dst v') w' (glue φ' φ (st (i + 1)).2.size) (i + 1) := by
  have hil : i < ops.size := (Array.getElem?_eq_some_iff.1 ho).1
  have hsz : i < listed.size := by rw [I.size]; exact hil
  have hs1 := K.size1 hil
  have hR := I.heapAt K (c := c) hil hmi hno
  -- nothing new is there yet
  have hfresh : ∀ id, (st i).2.size ≤ id → id < (st (i + 1)).2.size → φ id = .absent := by
    intro id h1 h2
    cases hs : φ id with
    | absent => rfl
    | _ =>
      rcases I.dom id (by simp [hs]) with h3 | ⟨j, hj, hjn, h3, h4⟩
      · have := K.sizes (Nat.zero_le i) (by omega); omega
      · have hji : j ≠ i := fun e => hun (e ▸ hj)
        rcases Nat.lt_or_ge j i with h | h
        · have := K.sizes (show j + 1 ≤ i by omega) (by omega); omega
        · have := K.sizes (show i + 1 ≤ j by omega) (by omega); omega
  have hle : Le φ (glue φ' φ (st (i + 1)).2.size) := by
    refine ⟨fun id hid => ?_, hp.le.fz⟩
    simp only [glue_st]
    by_cases h : id < (st (i + 1)).2.size
    · rw [if_pos h]
      have hlt : id < (st i).2.size := by
        rcases Nat.lt_or_ge id (st i).2.size with h' | h'
        · exact h'
        · exact absurd (hfresh id h' h) hid
      have := hp.le id (by simp only [res_st]; rw [if_pos hlt]; exact hid)
      simp only [res_st] at this
      rwa [if_pos hlt] at this
    · rw [if_neg h]; exact .inl rfl
  have hgl : Le φ' (res (glue φ' φ (st (i + 1)).2.size) (st (i + 1)).2.size) := by
    refine ⟨fun id hid => ?_, FLe.refl _⟩
    left
    have hlt := hp.rel.id_lt hid
    simp only [res_st, glue_st]
    rw [if_pos hlt, if_pos hlt]
  have hblk : ∀ id b o k, φ id = .live b o k → b < w.heap.size := by
    intro id b o k hl
    obtain ⟨q, obj, c, e, fr, _, _, _, _, _, hb, _⟩ := I.live id b o k hl
    exact (Array.getElem?_eq_some_iff.1 hb).1
  have ownedUp : ∀ b, Owned (res φ (st i).2.size) (st i).2 b → (Owned φ0 (st 0).2 b ∨ w0.heap.size ≤ b) ∧ ∃ id o k, id < (st i).2.size ∧ φ id = .live b o k ∧ ∀ id2 b2 o2 k2, φ id2 = .live b2 o2 k2 → id2 ≠ id → b2 ≠ b := by
    rintro b ⟨id, o', k', obj, hl, hg, hoo⟩
    simp only [res_st] at hl
    split at hl
    · rename_i hlt
      obtain ⟨q, obj', c', e', fr', hmq, hqn, hidq, hcase, hg', hb, hcells, hown⟩ := I.live id b o' k' hl
      have hqi : q ≤ i := by
        rcases hcase with rfl | ⟨j, rfl, hj⟩
        · exact hmi
        · rcases Nat.lt_or_ge j i with h | h
          · exact h
          · have := K.sizes h (by omega); omega
      have : (st i).2.get id = some obj' := by rw [K.same hqi (by omega) (fun k p h1 h2 => hno k p (by omega) h2) hidq]; exact hg'
      rw [hg] at this; cases this
      exact ⟨(hown hoo).2.1, id, o', k', hlt, hl, (hown hoo).2.2⟩
    · cases hl
  refine ⟨by simp [I.size], I.closed_next ho hr, by omega, ?_, .inr ⟨i, c, rfl, hc, hw⟩, ?_, I.le.trans hle, ?_, ?_, ?_, ?_, ?_, ?_, Nat.le_trans I.grow hp.grow, ?_, I.tm_next K ho hc hun hr hle hput (hv.mono hgl), by rw [put_size]; exact I.tsz, by rw [put_defers']; exact I.df, hp.rel.froz, ?_, ?_⟩
  rotate_left 9
  · intro id b o' k' q obj hl hmq hqn hidq hcase hg ho
    simp only [glue_st] at hl
    split at hl
    · rename_i hlt
      have hq1 : q = i + 1 := by
        rcases hcase with h | ⟨j, hj, hge⟩
        · exact h
        · rcases Nat.lt_or_ge i j with h | h
          · have := K.sizes (show i + 1 ≤ j by omega) (by omega); omega
          · omega
      subst hq1
      exact hp.rel.nofz id b o' k' obj hl hg ho
    · rename_i hge
      have hcase' : ∃ j, q = j + 1 ∧ (st j).2.size ≤ id := by
        rcases hcase with h | h
        · subst h; omega
        · exact h
      have hz := I.nofz id b o' k' q obj hl (by omega) hqn hidq (.inr hcase') hg ho
      cases hz' : φ'.fz b with
      | none => exact hz'
      | some c =>
        rcases hp.fz b c hz' with h | h | h
        · have h2 : φ.fz b = some c := h
          rw [hz] at h2; cases h2
        · obtain ⟨_, id3, o3, k3, hlt3, hl3, hex⟩ := ownedUp b h
          exact absurd rfl (hex id b o' k' hl (by omega))
        · have := hblk id b o' k' hl; omega
  · intro b c hz
    rcases hp.fz b c hz with h | h | h
    · exact I.fz b c h
    · exact .inr (ownedUp b h).1
    · exact .inr (.inr (Nat.le_trans I.grow h))
  · -- mw
    intro k p hk hpw
    rw [Done.set hsz, I.mw k p hk hpw]
    constructor
    · rintro (rfl | h) <;> omega
    · intro h
      by_cases hki : k = i
      · exact .inl hki
      · right
        rcases Nat.lt_or_ge k m with h' | h'
        · exact h'
        · have := hno k p h' (by omega) hk
          rw [hpw] at this; cases this
  · -- dom
    intro id hid
    simp only [glue_st] at hid
    split at hid
    · rename_i hlt
      by_cases hli : id < (st i).2.size
      · have hne : φ id ≠ .absent := by
          intro e
          have := (hp.abs id hli (by simp only [res_st]; rw [if_pos hli]; exact e)).1
          exact hid this
        rcases I.dom id hne with h | ⟨j, hj, hjn, h1, h2⟩
        · exact .inl h
        · exact .inr ⟨j, (Done.set hsz).2 (.inr hj), hjn, h1, h2⟩
      · exact .inr ⟨i, (Done.set hsz).2 (.inl rfl), hil, by omega, hlt⟩
    · rcases I.dom id hid with h | ⟨j, hj, hjn, h1, h2⟩
      · exact .inl h
      · exact .inr ⟨j, (Done.set hsz).2 (.inr hj), hjn, h1, h2⟩
  · -- live
    intro id b o' k' hl
    simp only [glue_st] at hl
    split at hl
    · rename_i hlt
      obtain ⟨obj, c', e', fr', h1, h2, h3, h4⟩ := hp.rel.live id b o' k' hl
      refine ⟨i + 1, obj, c', e', fr', Nat.le_refl _, by omega, hlt, .inl rfl, h1, h2, fun j v hj => ?_, fun hoo => ⟨h4 hoo, ?_, ?_⟩⟩
      · obtain ⟨h5, v', h6, h7⟩ := h3 j v hj
        exact ⟨h5, v', h6, h7.mono hgl⟩
      · rcases hp.own b ⟨id, o', k', obj, hl, h1, hoo⟩ with h | h
        · exact (ownedUp b h).1
        · exact .inr (Nat.le_trans I.grow h)
      · intro id2 b2 o2 k2 hl2 hne
        simp only [glue_st] at hl2
        split at hl2
        · exact Ne.symm (hp.rel.excl id id2 b o' k' b2 o2 k2 obj hl hl2 h1 hoo (Ne.symm hne))
        · rcases hp.own b ⟨id, o', k', obj, hl, h1, hoo⟩ with h | h
          · obtain ⟨_, id3, o3, k3, hlt3, hl3, hex⟩ := ownedUp b h
            exact hex id2 b2 o2 k2 hl2 (by omega)
          · have := hblk id2 b2 o2 k2 hl2; omega
    · rename_i hge
      obtain ⟨q, obj, c', e', fr', hmq, hqn, hidq, hcase, hg, hb, hcells, hown⟩ := I.live id b o' k' hl
      have hqi : i + 1 < q := by
        rcases Nat.lt_or_ge (i + 1) q with h | h
        · exact h
        · have := K.sizes h (by omega); omega
      have hcase' : ∃ j, q = j + 1 ∧ (st j).2.size ≤ id := hcase.resolve_left (by omega)
      have hnb : ¬ Owned (res φ (st i).2.size) (st i).2 b := by
        intro h
        obtain ⟨_, id3, o3, k3, hlt3, hl3, hex⟩ := ownedUp b h
        exact hex id b o' k' hl (by omega) rfl
      refine ⟨q, obj, c', e', fr', by omega, hqn, hidq, .inr hcase', hg, by rw [hp.keep b (hblk id b o' k' hl) hnb]; exact hb, fun j v hj => ?_, fun hoo => ⟨(hown hoo).1, (hown hoo).2.1, ?_⟩⟩
      · obtain ⟨h5, v', h6, h7⟩ := hcells j v hj
        exact ⟨h5, v', h6, h7.mono (res_mono hle _)⟩
      · intro id2 b2 o2 k2 hl2 hne
        simp only [glue_st] at hl2
        split at hl2
        · rename_i hlt2
          by_cases hli : id2 < (st i).2.size
          · -- an old block keeps its place
            have hne2 : (res φ (st i).2.size) id2 ≠ .absent := by
              intro e
              have := (hp.abs id2 hli e).1
              rw [hl2] at this; cases this
            rcases hp.le id2 hne2 with e | ⟨e, _⟩
            · rw [hl2] at e
              simp only [res_st] at e
              rw [if_pos hli] at e
              exact (hown hoo).2.2 id2 b2 o2 k2 e.symm hne
            · rw [hl2] at e; cases e
          · have habs : (res φ (st i).2.size) id2 = .absent := by simp only [res_st]; rw [if_neg hli]
            rcases hp.new id2 b2 o2 k2 habs hl2 with h | h
            · obtain ⟨_, id3, o3, k3, hlt3, hl3, hex⟩ := ownedUp b2 h
              exact Ne.symm (hex id b o' k' hl (by omega))
            · have := hblk id b o' k' hl; omega
        · exact (hown hoo).2.2 id2 b2 o2 k2 hl2 hne
  · -- dead
    intro id p hd
    simp only [glue_st] at hd
    split at hd
    · rename_i hlt
      exact ⟨hlt, hp.rel.dead id p hd⟩
    · rename_i hge
      have := (I.dead id p hd).1
      have := K.sizes (show m ≤ i + 1 by omega) (by omega)
      omega
  · -- absent
    intro id hab q1 q2 h12 h2 hid
    have habφ : φ id = .absent := by
      simp only [glue_st] at hab
      split at hab
      · rename_i hlt
        by_cases hli : id < (st i).2.size
        · cases hs : φ id with
          | absent => rfl
          | _ =>
            rcases hp.le id (by simp only [res_st]; rw [if_pos hli, hs]; simp) with e | ⟨e, _⟩ <;> rw [hab] at e
            · simp only [res_st] at e; rw [if_pos hli, hs] at e; cases e
            · cases e
        · exact hfresh id (by omega) hlt
      · exact hab
    have upto : ∀ q, q ≤ i → id < (st q).2.size → (st i).2.get id = (st q).2.get id := by
      intro q hq hid
      rcases Nat.lt_or_ge q m with h | h
      · have e1 := I.absent id habφ q m (by omega) (Nat.le_refl _) hid
        have e2 := K.same hmi (by omega) hno (Nat.lt_of_lt_of_le hid (K.sizes (by omega) (by omega)))
        rw [e2, e1]
      · exact K.same hq (by omega) (fun k p h1 h2 => hno k p (by omega) h2) hid
    by_cases h2i : q2 = i + 1
    · subst h2i
      by_cases h1i : q1 = i + 1
      · subst h1i; rfl
      · have hidi : id < (st i).2.size := Nat.lt_of_lt_of_le hid (K.sizes (by omega) (by omega))
        have := (hp.abs id hidi (by simp only [res_st]; rw [if_pos hidi]; exact habφ)).2
        rw [this, upto q1 (by omega) hid]
    · have e1 := upto q1 (by omega) hid
      have e2 := upto q2 (by omega) (Nat.lt_of_lt_of_le hid (K.sizes h12 (by omega)))
      rw [← e2, e1]
  · -- zero
    intro id hid h0
    have hz := I.zero id hid h0
    have hli : id < (st i).2.size := Nat.lt_of_lt_of_le hid (K.sizes (Nat.zero_le _) (by omega))
    simp only [glue_st]
    rw [if_pos (by omega)]
    exact (hp.abs id hli (by simp only [res_st]; rw [if_pos hli]; exact hz)).1
  · -- new
    intro id b o' k' h0 hl
    simp only [glue_st] at hl
    split at hl
    · rename_i hlt
      have habs : ∀ (_ : φ id = .absent), Owned φ0 (st 0).2 b ∨ w0.heap.size ≤ b := by
        intro hz
        have : (res φ (st i).2.size) id = .absent := by simp only [res_st]; split; exact hz; rfl
        rcases hp.new id b o' k' this hl with h | h
        · exact (ownedUp b h).1
        · exact .inr (Nat.le_trans I.grow h)
      cases hs : φ id with
      | absent => exact habs hs
      | dead =>
        rcases hle id (by simp [hs]) with e | ⟨e, _⟩ <;> simp only [glue_st] at e <;> rw [if_pos hlt, hl] at e
        · rw [hs] at e; cases e
        · cases e
      | live b1 o1 k1 =>
        rcases hle id (by simp [hs]) with e | ⟨e, _⟩ <;> simp only [glue_st] at e <;> rw [if_pos hlt, hl] at e
        · rw [hs] at e
          injection e with e1 e2 e3
          subst e1
          exact I.new id b o1 k1 h0 hs
        · cases e
    · exact I.new id b o' k' h0 hl
  · -- keep
    intro b hb hn
    rw [hp.keep b (Nat.lt_of_lt_of_le hb I.grow) ?_, I.keep b hb hn]
    intro h
    rcases (ownedUp b h).1 with h1 | h1
    · exact hn h1
    · omega
  · exact ⟨hp.env.1.trans I.env.1, hp.env.2.1.trans I.env.2.1, hp.env.2.2.trans I.env.2.2⟩

/-- An operation that is no writer. -/
theorem Inv.next_quiet (K : Ctx P cf ops nt cs st hs ids) (I : Inv P ops nt cs st φ0 w0 D listed a w φ m) {i : Nat} {o : Oper} {c : AOper} (ho : ops[i]? = some o) (hc : cs[i]? = some c) (hun : ¬ Done listed i) (hr : ∀ e ∈ o.after.toList, Region.binds .any e = true → Done listed e.on)
    (hw : isWriter c.op = false) {φ' : Phi} {w' : World} (p1 : ∀ id, id < (st i).2.size → φ' id = φ id) (p2 : ∀ id, (st (i + 1)).2.size ≤ id → φ' id = .absent)
    (p3 : ∀ id, (st i).2.size ≤ id → id < (st (i + 1)).2.size → id = (st i).2.size ∧ (∀ p, φ' id ≠ .dead p) ∧ ∀ b o k, φ' id = .live b o k → ∃ obj c e fr, (st (i + 1)).2.get id = some obj ∧ w'.heap[b]? = some (.cells c e fr) ∧
      (∀ (j : Nat) (v : Value), obj.cells[j]? = some v → v.one1 = true ∧ ∃ v' : Value, c[o + j]? = some v' ∧ VRel φ' v v') ∧ (obj.own = true → o = 0 ∧ fr = (0, 0) ∧ e = obj.elem ∧ (∀ n, k = some n → c.size = n * P.cellsOf e)) ∧ w.heap.size ≤ b)
    (p4 : ∀ b, b < w.heap.size → w'.heap[b]? = w.heap[b]?) (p5 : w.heap.size ≤ w'.heap.size) (p6 : w'.os = w.os ∧ w'.output = w.output ∧ w'.tape = w.tape)
    (p7 : ∀ b c, φ'.fz b = some c → ∃ e fr, w'.heap[b]? = some (.cells c e fr)) (p8 : FLe φ.fz φ'.fz) (p9 : ∀ b c, φ'.fz b = some c → φ.fz b = some c ∨ w.heap.size ≤ b) (p10 : ∀ id b o k, (st i).2.size ≤ id → id < (st (i + 1)).2.size → φ' id = .live b o k → φ'.fz b = none) {v v' : Value}
    (hput : (st (i + 1)).1 = putA (st i).1 c.dst v) (hv : VRel φ' v v') : Inv P ops nt cs st φ0 w0 D (listed.setIfInBounds i true) (a.put o.dst v') w' (glue φ' φ (st (i + 1)).2.size) m := by
  have hil : i < ops.size := (Array.getElem?_eq_some_iff.1 ho).1
  have hsz : i < listed.size := by rw [I.size]; exact hil
  have hs1 := K.size1 hil
  have hfresh : ∀ id, (st i).2.size ≤ id → id < (st (i + 1)).2.size → φ id = .absent := by
    intro id h1 h2
    cases hs : φ id with
    | absent => rfl
    | _ =>
      rcases I.dom id (by simp [hs]) with h3 | ⟨j, hj, hjn, h3, h4⟩
      · have := K.sizes (Nat.zero_le i) (by omega); omega
      · have hji : j ≠ i := fun e => hun (e ▸ hj)
        rcases Nat.lt_or_ge j i with h | h
        · have := K.sizes (show j + 1 ≤ i by omega) (by omega); omega
        · have := K.sizes (show i + 1 ≤ j by omega) (by omega); omega
  have old : ∀ id, ¬ ((st i).2.size ≤ id ∧ id < (st (i + 1)).2.size) → glue φ' φ (st (i + 1)).2.size id = φ id := by
    intro id h
    simp only [glue_st]
    split
    · exact p1 id (by omega)
    · rfl
  have new : ∀ id, (st i).2.size ≤ id → id < (st (i + 1)).2.size → glue φ' φ (st (i + 1)).2.size id = φ' id := by
    intro id _ h2
    simp only [glue_st]
    rw [if_pos h2]
  have hle : Le φ (glue φ' φ (st (i + 1)).2.size) := by
    refine ⟨fun id hid => ?_, p8⟩
    left
    exact old id (fun h => hid (hfresh id h.1 h.2))
  have hgl : Le φ' (res (glue φ' φ (st (i + 1)).2.size) (st (i + 1)).2.size) := by
    refine ⟨fun id hid => ?_, FLe.refl _⟩
    left
    have hlt : id < (st (i + 1)).2.size := by
      rcases Nat.lt_or_ge id (st (i + 1)).2.size with h | h
      · exact h
      · exact absurd (p2 id h) hid
    simp only [res_st, glue_st]
    rw [if_pos hlt, if_pos hlt]
  have hblk : ∀ id b o k, φ id = .live b o k → b < w.heap.size := by
    intro id b o k hl
    obtain ⟨q, obj, c, e, fr, _, _, _, _, _, hb, _⟩ := I.live id b o k hl
    exact (Array.getElem?_eq_some_iff.1 hb).1
  have split3 : ∀ id, ((st i).2.size ≤ id ∧ id < (st (i + 1)).2.size) ∨ ¬ ((st i).2.size ≤ id ∧ id < (st (i + 1)).2.size) := fun id => Classical.em _
  refine ⟨by simp [I.size], I.closed_next ho hr, I.mle, ?_, I.mlast, ?_, I.le.trans hle, ?_, ?_, ?_, ?_, ?_, ?_, Nat.le_trans I.grow p5, ?_, I.tm_next K ho hc hun hr hle hput (hv.mono hgl), by rw [put_size]; exact I.tsz, by rw [put_defers']; exact I.df, p7, ?_, ?_⟩
  rotate_left 9
  · intro id b o' k' q obj hl hmq hqn hidq hcase hg ho
    rcases split3 id with h | h
    · rw [new id h.1 h.2] at hl
      exact p10 id b o' k' h.1 h.2 hl
    · rw [old id h] at hl
      have hz := I.nofz id b o' k' q obj hl hmq hqn hidq hcase hg ho
      cases hz' : φ'.fz b with
      | none => exact hz'
      | some c =>
        rcases p9 b c hz' with h | h
        · rw [hz] at h; cases h
        · have := hblk id b o' k' hl; omega
  · intro b c hz
    rcases p9 b c hz with h | h
    · exact I.fz b c h
    · exact .inr (.inr (Nat.le_trans I.grow h))
  · intro k p hk hpw
    rw [Done.set hsz, ← I.mw k p hk hpw]
    constructor
    · rintro (rfl | h)
      · rw [hc] at hk; cases hk; rw [hw] at hpw; cases hpw
      · exact h
    · exact .inr
  · intro id hid
    rcases split3 id with h | h
    · exact .inr ⟨i, (Done.set hsz).2 (.inl rfl), hil, h.1, h.2⟩
    · rw [old id h] at hid
      rcases I.dom id hid with h | ⟨j, hj, hjn, h1, h2⟩
      · exact .inl h
      · exact .inr ⟨j, (Done.set hsz).2 (.inr hj), hjn, h1, h2⟩
  · intro id b o' k' hl
    rcases split3 id with h | h
    · rw [new id h.1 h.2] at hl
      obtain ⟨hidn, _, h3⟩ := p3 id h.1 h.2
      obtain ⟨obj, c', e', fr', hg, hb, hcells, hown, hbw⟩ := h3 b o' k' hl
      have hgq : ∃ q, m ≤ q ∧ q ≤ ops.size ∧ id < (st q).2.size ∧ (q = m ∨ ∃ j, q = j + 1 ∧ (st j).2.size ≤ id) ∧ (st q).2.get id = some obj ∧ (st (i + 1)).2.size ≤ (st q).2.size := by
        rcases Nat.lt_or_ge (i + 1) m with hm | hm
        · refine ⟨m, Nat.le_refl _, I.mle, Nat.lt_of_lt_of_le h.2 (K.sizes (by omega) I.mle), .inl rfl, ?_, K.sizes (by omega) I.mle⟩
          rw [I.absent id (hfresh id h.1 h.2) (i + 1) m (by omega) (Nat.le_refl _) h.2]; exact hg
        · exact ⟨i + 1, hm, by omega, h.2, .inr ⟨i, rfl, h.1⟩, hg, Nat.le_refl _⟩
      obtain ⟨q, hmq, hqn, hidq, hcase, hgq, hsq⟩ := hgq
      refine ⟨q, obj, c', e', fr', hmq, hqn, hidq, hcase, hgq, hb, fun j v hj => ?_, fun hoo => ⟨hown hoo, .inr (Nat.le_trans I.grow hbw), ?_⟩⟩
      · obtain ⟨h5, v', h6, h7⟩ := hcells j v hj
        exact ⟨h5, v', h6, (h7.mono hgl).mono (res_le hsq)⟩
      · intro id2 b2 o2 k2 hl2 hne
        rcases split3 id2 with h2 | h2
        · have := (p3 id2 h2.1 h2.2).1; omega
        · rw [old id2 h2] at hl2
          have := hblk id2 b2 o2 k2 hl2; omega
    · rw [old id h] at hl
      obtain ⟨q, obj, c', e', fr', hmq, hqn, hidq, hcase, hg, hb, hcells, hown⟩ := I.live id b o' k' hl
      refine ⟨q, obj, c', e', fr', hmq, hqn, hidq, hcase, hg, by rw [p4 b (hblk id b o' k' hl)]; exact hb, fun j v hj => ?_, fun hoo => ⟨(hown hoo).1, (hown hoo).2.1, ?_⟩⟩
      · obtain ⟨h5, v', h6, h7⟩ := hcells j v hj
        exact ⟨h5, v', h6, h7.mono (res_mono hle _)⟩
      · intro id2 b2 o2 k2 hl2 hne
        rcases split3 id2 with h2 | h2
        · rw [new id2 h2.1 h2.2] at hl2
          obtain ⟨_, _, h3⟩ := p3 id2 h2.1 h2.2
          obtain ⟨_, _, _, _, _, _, _, _, hbw⟩ := h3 b2 o2 k2 hl2
          have := hblk id b o' k' hl; omega
        · rw [old id2 h2] at hl2
          exact (hown hoo).2.2 id2 b2 o2 k2 hl2 hne
  · intro id p hd
    rcases split3 id with h | h
    · rw [new id h.1 h.2] at hd
      exact absurd hd ((p3 id h.1 h.2).2.1 p)
    · rw [old id h] at hd
      exact I.dead id p hd
  · intro id hab
    rcases split3 id with h | h
    · exact I.absent id (hfresh id h.1 h.2)
    · rw [old id h] at hab
      exact I.absent id hab
  · intro id hid h0
    have hli : id < (st i).2.size := Nat.lt_of_lt_of_le hid (K.sizes (Nat.zero_le _) (by omega))
    rw [old id (by omega)]
    exact I.zero id hid h0
  · intro id b o' k' h0 hl
    rcases split3 id with h | h
    · rw [new id h.1 h.2] at hl
      obtain ⟨_, _, h3⟩ := p3 id h.1 h.2
      obtain ⟨_, _, _, _, _, _, _, _, hbw⟩ := h3 b o' k' hl
      exact .inr (Nat.le_trans I.grow hbw)
    · rw [old id h] at hl
      exact I.new id b o' k' h0 hl
  · intro b hb hn
    rw [p4 b (Nat.lt_of_lt_of_le hb I.grow), I.keep b hb hn]
  · exact ⟨p6.1.trans I.env.1, p6.2.1.trans I.env.2.1, p6.2.2.trans I.env.2.2⟩

end Go.Bx

namespace Go.Bx
variable {P : Program}
theorem compOp_isLoad {op : Op} {aop : AOp} (hc : compOp P op = some aop) (hn : ∀ t x, op ≠ .load t x) : isLoad aop = false := by
  cases op with
  | call c =>
    obtain ⟨cal, args, ats⟩ := c
    cases cal with
    | value f => simp only [compOp, Option.some.injEq] at hc; subst hc; rfl
    | invoke r n => simp only [compOp, Option.some.injEq] at hc; subst hc; rfl
    | builtin b =>
    cases b <;> simp only [compOp, reduceCtorEq, Option.some.injEq] at hc
    case min => subst hc; rfl
    case max => subst hc; rfl
    all_goals
      split at hc
      · split at hc <;> first
          | cases hc; rfl
          | cases hc; done
          | (simp only [Option.map_eq_some_iff] at hc; obtain ⟨_, _, rfl⟩ := hc; rfl)
          | (split at hc <;> first
            | cases hc; rfl
            | cases hc; done
            | (split at hc <;> first
              | cases hc; done
              | (split at hc <;> cases hc; rfl)))
      · cases hc
  | load t x => exact absurd rfl (hn t x)
  | makeFunc fn a b => cases fn <;> simp only [compOp, Option.some.injEq, reduceCtorEq] at hc; subst hc; rfl
  | slice t x lo hi mx =>
    cases mx with
    | some m => simp [compOp] at hc
    | none =>
      simp only [compOp] at hc
      split at hc <;> first
        | cases hc; rfl
        | cases hc; done
        | (simp only [Option.bind_eq_bind, Option.bind_eq_some_iff, Option.some.injEq] at hc; obtain ⟨_, _, rfl⟩ := hc; rfl)
  | build t parts =>
    simp only [compOp, Option.bind_eq_bind, Option.bind_eq_some_iff] at hc
    obtain ⟨z, _, hc⟩ := hc
    split at hc
    · split at hc
      · simp only [Option.bind_eq_some_iff, Option.some.injEq] at hc; obtain ⟨_, _, rfl⟩ := hc; rfl
      · cases hc
    · simp only [Option.bind_eq_some_iff, Option.some.injEq] at hc; obtain ⟨_, _, _, _, rfl⟩ := hc; rfl
    · cases hc
  | buildSlice t len parts =>
    simp only [compOp] at hc
    split at hc
    · simp only [Option.bind_eq_bind, Option.bind_eq_some_iff] at hc
      obtain ⟨_, _, _, _, hc⟩ := hc
      split at hc
      · simp only [Option.bind_eq_some_iff, Option.some.injEq] at hc; obtain ⟨_, _, rfl⟩ := hc; rfl
      · cases hc
    · cases hc
  | makeSlice t l c =>
    simp only [compOp] at hc
    split at hc
    · simp only [Option.bind_eq_bind, Option.bind_eq_some_iff] at hc
      obtain ⟨_, _, _, _, hc⟩ := hc
      split at hc <;> cases hc
      rfl
    · cases hc
  | index t x i =>
    simp only [compOp] at hc
    split at hc <;> first
      | cases hc; rfl
      | cases hc; done
      | (simp only [Option.bind_eq_bind, Option.bind_eq_some_iff, Option.some.injEq] at hc; obtain ⟨_, _, _, _, rfl⟩ := hc; rfl)
  | _ =>
    simp only [compOp, Option.some.injEq, Option.map_eq_some_iff, reduceCtorEq] at hc <;> first
      | (subst hc; rfl)
      | (obtain ⟨_, _, rfl⟩ := hc; rfl)
      | (split at hc <;> first
        | cases hc; rfl
        | cases hc; done
        | (simp only [Option.map_eq_some_iff] at hc; obtain ⟨_, _, rfl⟩ := hc; rfl)
        | (split at hc <;> first
          | cases hc; rfl
          | cases hc; done
          | (simp only [Option.map_eq_some_iff] at hc; obtain ⟨_, _, rfl⟩ := hc; rfl)
          | (split at hc <;> first
            | cases hc; rfl
            | cases hc; done
            | (split at hc <;> first | cases hc; done | (cases hc; rfl)))))

theorem compOp_load {op : Op} {sz : Option Nat} {x : Operand} (hc : compOp P op = some (.load sz x)) : ∃ t, op = .load t x := by
  by_cases h : ∃ t y, op = .load t y
  · obtain ⟨t, y, rfl⟩ := h
    simp only [compOp, Option.map_eq_some_iff] at hc
    obtain ⟨s, _, he⟩ := hc
    cases he
    exact ⟨t, rfl⟩
  · have := compOp_isLoad hc (fun t y e => h ⟨t, y, e⟩)
    cases this

section
variable {cf : Nat → CallF} {ops : Array Oper} {nt : Nat} {cs : List AOper} {st : Nat → Tmps × AHeap} {hs : List (Nat × AHeap × AHeap)} {ids : List (Nat × List Nat)}
variable {φ0 : Phi} {w0 : World} {D : List Deferred} {listed : Array Bool} {a : Act} {w : World} {φ : Phi} {m : Nat}

/-- The heap for an operation that is no writer: what it loads, and else no contents. -/
def bare (φ : Phi) (σ : AHeap) (ld : Option Nat) : AHeap :=
  mkHeap (fun id => match φ id with
    | .live _ _ _ => some (if ld = some id then ⟨((σ.get id).map (·.cells)).getD [], 0, false⟩ else ⟨[], 0, false⟩)
    | _ => none) σ.size

theorem bare_get (φ : Phi) (σ : AHeap) (ld : Option Nat) (id : Nat) (h : id < σ.size) : (bare φ σ ld).get id = match φ id with
    | .live _ _ _ => some (if ld = some id then ⟨((σ.get id).map (·.cells)).getD [], 0, false⟩ else ⟨[], 0, false⟩)
    | _ => none := by
  unfold bare
  rw [mkHeap_get, if_pos h]

/-- No block of the bare heap is owned. -/
theorem bare_owned (φ : Phi) (σ : AHeap) (ld : Option Nat) (b : Nat) : ¬ Owned φ (bare φ σ ld) b := by
  rintro ⟨id, o, k, obj, hl, hg, ho⟩
  have hlt : id < σ.size := by
    rcases Nat.lt_or_ge id σ.size with h | h
    · exact h
    · unfold bare at hg
      rw [mkHeap_get, if_neg (by omega)] at hg
      cases hg
  rw [bare_get φ σ ld id hlt, hl] at hg
  simp only [Option.some.injEq] at hg
  subst hg
  split at ho <;> cases ho

theorem Inv.mle_of (K : Ctx P cf ops nt cs st hs ids) (I : Inv P ops nt cs st φ0 w0 D listed a w φ m) {i : Nat} (hq : ∀ (k : Nat) (p : AOper), cs[k]? = some p → isWriter p.op = true → (Done listed k ↔ k < i)) :
    m ≤ i ∧ ∀ (k : Nat) (p : AOper), m ≤ k → k < i → cs[k]? = some p → isWriter p.op = false := by
  refine ⟨?_, fun k p h1 h2 hk => ?_⟩
  · rcases I.mlast with rfl | ⟨k, c, rfl, hk, hw⟩
    · exact Nat.zero_le _
    · have := (hq k c hk hw).1 ((I.mw k c hk hw).2 (by omega))
      omega
  · cases hw : isWriter p.op with
    | false => rfl
    | true =>
      have := (I.mw k p hk hw).1 ((hq k p hk hw).2 h2)
      omega

theorem valBnd_rel {φ : Phi} {n : Nat} : ∀ {v v' : Value}, VRel φ v v' → valBnd n v = true → VRel (res φ n) v v'
  | _, _, .bool b, _ => .bool b
  | _, _, .int k m, _ => .int k m
  | _, _, .string s, _ => .string s
  | _, _, .ptrN, _ => .ptrN
  | _, _, .ptr h, hb => .ptr (by
      simp only [valBnd, Nat.blt_eq] at hb
      unfold ARel at *; simp only [res_st] at *
      rw [if_pos hb]; exact h)
  | _, _, .slcN, _ => .slcN
  | _, _, .slc h0 hc h1, hb => .slc (by
      simp only [valBnd, Nat.blt_eq] at hb
      refine h0.imp id (fun h => ?_)
      unfold ARel at *; simp only [res_st] at *
      rw [if_pos hb]; exact h) hc (fun e => by
      simp only [valBnd, Nat.blt_eq] at hb
      have h := h1 e
      unfold FlagRel at *; simp only [res_st] at *
      rw [if_pos hb]; exact h)
  | _, _, .func f (xs := xs) (xs' := xs') (ys := ys) (ys' := ys') hx hy, hb => by
      simp only [valBnd, Bool.and_eq_true, Array.isEmpty_iff] at hb
      obtain ⟨rfl, rfl⟩ := hb
      refine .func f ?_ ?_
      · generalize xs'.toList = l at hx; cases hx; exact .nil
      · generalize ys'.toList = l at hy; cases hy; exact .nil
  | _, _, .nilFunc, _ => .nilFunc
  | _, _, .nilIface, _ => .nilIface
  | _, _, .iface t h, hb => .iface t (valBnd_rel h (by simpa [valBnd] using hb))
  | _, _, .agg _ _, hb => by simp [valBnd] at hb
  | _, _, .tuple _, hb => by simp [valBnd] at hb
  | _, _, .top _, hb => by simp [valBnd] at hb
  | _, _, .bvs h, _ => .bvs h
  | _, _, .bvp h, _ => .bvp h

theorem res_res_le {φ : Phi} {n m : Nat} : Le (res (res φ n) m) (res φ m) := by
  refine ⟨fun i hi => ?_, FLe.refl _⟩
  left
  simp only [res_st] at *
  by_cases h1 : i < m
  · simp only [h1, if_true] at hi ⊢
    by_cases h2 : i < n
    · simp [h2]
    · simp [h2] at hi
  · simp [h1] at hi

/-- What an operation may load, when it comes up. -/
theorem Inv.loads (K : Ctx P cf ops nt cs st hs ids) (I : Inv P ops nt cs st φ0 w0 D listed a w φ m) {i : Nat} {o : Oper} {c : AOper} (ho : ops[i]? = some o) (hc : cs[i]? = some c) (hun : ¬ Done listed i) (hr : ∀ e ∈ o.after.toList, Region.binds .any e = true → Done listed e.on)
    (hld : isLoad c.op = true) (hw : isWriter c.op = false) (hce : chkOf (opd (st i).1) c = c.chk) (hchk : chkOf (opd (st i).1) c ≠ [] → (loadsAt (opd (st i).1) c.op, chkOf (opd (st i).1) c) ∈ ids ∧ chkFine (chkOf (opd (st i).1) c) (st i).2 (loadsAt (opd (st i).1) c.op) = true) {id : Nat} (hid : id = loadsAt (opd (st i).1) c.op) (hlt : id < (st i).2.size) {ob : AObj} (hob : (st i).2.get id = some ob) (hne : φ id ≠ .absent) :
    ∃ b o k c e fr, φ id = .live b o k ∧ w.heap[b]? = some (.cells c e fr) ∧ (∀ (j : Nat) (v : Value), ob.cells[j]? = some v → v.one1 = true ∧ ∃ v' : Value, c[o + j]? = some v' ∧ VRel (res φ (st i).2.size) v v') := by
  have hil : i < ops.size := (Array.getElem?_eq_some_iff.1 ho).1
  rw [hce] at hchk
  have hqj : ∀ (k : Nat) (p : AOper), cs[k]? = some p → isWriter p.op = true → k ∉ c.chk → (Done listed k ↔ k < i) := by
    intro k p hk hpw hkj
    have hki : i ≠ k := fun e => by subst e; rw [hc] at hk; cases hk; rw [hw] at hpw; cases hpw
    have hkl : k < ops.size := by rw [← K.len]; exact (List.getElem?_eq_some_iff.1 hk).1
    exact I.order ho hun hr (show ops[k]? = some ops[k] by simp [hkl]) hki (K.chk i k c p hc hk hld hkj hpw)
  by_cases hck : c.chk = []
  · have hq : ∀ (k : Nat) (p : AOper), cs[k]? = some p → isWriter p.op = true → (Done listed k ↔ k < i) := fun k p hk hpw => hqj k p hk hpw (by rw [hck]; simp)
    obtain ⟨hmi, hno⟩ := I.mle_of K hq
    have hR := I.heapAt K (c := c) hil hmi hno
    cases hs : φ id with
    | absent => exact absurd hs hne
    | dead p =>
      have := hR.dead id p (by simp only [res_st]; rw [if_pos hlt]; exact hs)
      rw [hob] at this; cases this
    | live b o' k =>
      obtain ⟨obj, c', e, fr, h1, h2, h3, _⟩ := hR.live id b o' k (by simp only [res_st]; rw [if_pos hlt]; exact hs)
      rw [hob] at h1; cases h1
      exact ⟨b, o', k, c', e, fr, rfl, h2, h3⟩
  · obtain ⟨hin, hfine⟩ := hchk hck
    rw [← hid] at hin hfine
    have h0lt : id < (st 0).2.size := (K.ok _ hin).1
    -- between here and there only such writers stand
    have hmid : (st m).2.get id = some ob := by
      rcases Nat.le_total m i with hmi | him
      · have := K.checked hin i hmi (by omega) (fun k p h1 h2 hk hpw => by
          by_cases hkj : k ∈ c.chk
          · exact hkj
          · have hd := (hqj k p hk hpw hkj).2 h2
            have := (I.mw k p hk hpw).1 hd
            omega)
        rw [← this]; exact hob
      · have := K.checked hin m him I.mle (fun k p h1 h2 hk hpw => by
          by_cases hkj : k ∈ c.chk
          · exact hkj
          · have hd := (I.mw k p hk hpw).2 h2
            have := (hqj k p hk hpw hkj).1 hd
            omega)
        rw [this]; exact hob
    cases hs : φ id with
    | absent => exact absurd hs hne
    | dead p =>
      have := (I.dead id p hs).2
      rw [hmid] at this; cases this
    | live b o' k =>
      obtain ⟨q, obj, c', e, fr, hmq, hqn, hidq, hcase, hg, hb, hcells, _⟩ := I.live id b o' k hs
      have hqm : q = m := by
        rcases hcase with h | ⟨j, hj, hge⟩
        · exact h
        · have := K.sizes (Nat.zero_le j) (by omega)
          omega
      subst hqm
      rw [hmid] at hg; cases hg
      refine ⟨b, o', k, c', e, fr, rfl, hb, fun j v hj => ?_⟩
      obtain ⟨h1, v', h2, h3⟩ := hcells j v hj
      refine ⟨h1, v', h2, ?_⟩
      have hbd : valBnd (st i).2.size v = true := by
        unfold chkFine at hfine
        rw [hob] at hfine
        have he : c.chk.isEmpty = false := by cases hcc : c.chk with | nil => exact absurd hcc hck | cons _ _ => rfl
        rw [he, Bool.false_or, List.all_eq_true] at hfine
        exact hfine v (List.mem_of_getElem? hj)
      exact (valBnd_rel h3 hbd).mono res_res_le

/-- The relation to the bare heap. -/
theorem Inv.bareR (K : Ctx P cf ops nt cs st hs ids) (I : Inv P ops nt cs st φ0 w0 D listed a w φ m) {i : Nat} {ld : Option Nat}
    (hl : ∀ id, ld = some id → id < (st i).2.size → ∀ b o k, φ id = .live b o k → ∃ c e fr, w.heap[b]? = some (.cells c e fr) ∧ (∀ (j : Nat) (v : Value), ((((st i).2.get id).map (·.cells)).getD [])[j]? = some v → v.one1 = true ∧ ∃ v' : Value, c[o + j]? = some v' ∧ VRel (res φ (st i).2.size) v v')) :
    R P (res φ (st i).2.size) (bare (res φ (st i).2.size) (st i).2 ld) w := by
  refine ⟨fun id h => ?_, fun id p h => ?_, fun id b o k h => ?_, fun id id2 b o k b2 o2 k2 obj h h2 hg ho _ => ?_, I.froz, fun id b o k obj h hg ho => absurd ⟨id, o, k, obj, h, hg, ho⟩ (bare_owned _ _ _ b)⟩
  · unfold bare at h; rw [mkHeap_size] at h
    simp only [res_st]; rw [if_neg (by omega)]
  · have hlt : id < (st i).2.size := by
      simp only [res_st] at h
      split at h
      · assumption
      · cases h
    rw [bare_get _ _ _ _ hlt, h]
  · have hlt : id < (st i).2.size := by
      simp only [res_st] at h
      split at h
      · assumption
      · cases h
    have hφ : φ id = .live b o k := by simp only [res_st] at h; rwa [if_pos hlt] at h
    rw [bare_get _ _ _ _ hlt, h]
    by_cases hld : ld = some id
    · obtain ⟨c, e, fr, h1, h2⟩ := hl id hld hlt b o k hφ
      exact ⟨_, c, e, fr, rfl, h1, by simpa [hld] using h2, by simp [hld]⟩
    · obtain ⟨q, obj, c, e, fr, _, _, _, _, _, hb, _⟩ := I.live id b o k hφ
      exact ⟨_, c, e, fr, rfl, hb, by simp [hld], by simp [hld]⟩
  · exact absurd ⟨id, o, k, obj, h, hg, ho⟩ (bare_owned _ _ _ b)

theorem Inv.step (K : Ctx P cf ops nt cs st hs ids) (hR0 : R P φ0 (st 0).2 w0) (I : Inv P ops nt cs st φ0 w0 D listed a w φ m) {Q : Exit → Act → World → Prop} {i : Nat} (hi : i ∈ Region.ready .any ops listed) {next : Act → World → Prop}
    (hn : ∀ a' w' φ' m', Inv P ops nt cs st φ0 w0 D (listed.setIfInBounds i true) a' w' φ' m' → next a' w') : wpOp P ops Q i next a w := by
  obtain ⟨hun0, o, ho, hr0⟩ := mem_ready.1 hi
  have hil : i < ops.size := (Array.getElem?_eq_some_iff.1 ho).1
  have hun : ¬ Done listed i := by
    unfold Done
    have : listed.getD i true = listed.getD i false := by
      have : i < listed.size := by rw [I.size]; exact hil
      simp [this]
    rw [← this, hun0]; simp
  have hr : ∀ e ∈ o.after.toList, Region.binds .any e = true → Done listed e.on := fun e he hb => hr0 e (by simpa using he) hb
  obtain ⟨_, c, _, hc⟩ := K.get hil
  obtain ⟨hop, hok, hdst, hcd, hcg⟩ := K.spec i o c ho hc
  have hwant := I.wanted K ho hc hun hr
  have hops := I.opds K ho hc hun hr
  unfold wpOp
  simp only [ho]
  cases hw : isWriter c.op with
  | true =>
    have hq : ∀ (k : Nat) (p : AOper), cs[k]? = some p → isWriter p.op = true → (Done listed k ↔ k < i) := by
      intro k p hk hpw
      by_cases hki : i = k
      · subst hki; exact ⟨fun h => absurd h hun, fun h => absurd h (Nat.lt_irrefl _)⟩
      · have hkl : k < ops.size := by rw [← K.len]; exact (List.getElem?_eq_some_iff.1 hk).1
        exact I.order ho hun hr (show ops[k]? = some ops[k] by simp [hkl]) hki (K.wrs i k c p hc hk hw hpw)
    obtain ⟨hmi, hno⟩ := I.mle_of K hq
    have hR := I.heapAt K (c := c) hil hmi hno
    rcases K.tr.step i c hc with ⟨hwa, v, h2, hput, _⟩ | ⟨hwa, h2, hput⟩
    · rw [hwant _ hwa, if_pos rfl]
      refine .inl (op2_sound (K.snd _) hop hops hR h2 ?_)
      intro φ' w' v' hp hv
      exact hn _ _ _ _ (I.next_writer K (fun i hi => hR0.bnd i hi) ho hc hun hr hw hmi hno hp hput hv)
    · rw [hwant _ hwa, if_neg (by simp)]
      have hp : Post P (res φ (st i).2.size) (st i).2 w (res φ (st i).2.size) (st (i + 1)).2 w := by rw [h2]; exact .refl hR
      exact hn _ _ _ _ (I.next_writer K (fun i hi => hR0.bnd i hi) ho hc hun hr hw hmi hno hp hput (undef_rel _))
  | false =>
    rcases K.tr.step i c hc with ⟨hwa, v, h2, hput, _, hchk⟩ | ⟨hwa, h2, hput⟩
    · rw [hwant _ hwa, if_pos rfl]
      have hnc : isCallA c.op = false := by cases hcop : c.op <;> simp_all [isWriter, isCallA]
      rw [op2_op1 hnc] at h2
      -- the block that is loaded
      have hlo : heapLoad (opd (st i).1) c.op = true → isLoad c.op = true ∧ chkOf (opd (st i).1) c = c.chk := by
        intro hld
        unfold heapLoad at hld
        split at hld
        · rename_i sz x hcop
          split at hld
          · rename_i ad had
            exact ⟨by rw [hcop]; rfl, by unfold chkOf; simp only [hcop, had]⟩
          · cases hld
        · cases hld
      have hload : heapLoad (opd (st i).1) c.op = true → loadsAt (opd (st i).1) c.op < (st i).2.size ∧ ∃ ob, (st i).2.get (loadsAt (opd (st i).1) c.op) = some ob ∧ φ (loadsAt (opd (st i).1) c.op) ≠ .absent := by
        intro hld
        cases hcop : c.op with
        | load sz x =>
          rw [hcop] at h2
          simp only [hcop, heapLoad] at hld
          simp only [op1] at h2
          split at h2
          rotate_left
          · rename_i t nm xs ys hbv; rw [hbv] at hld; cases hld
          · rename_i hne; cases h2
          · rename_i ad had
            have hx : x ∈ o.op.operands.toList := by
              rw [hcop] at hop
              obtain ⟨t, hoo⟩ := compOp_load hop
              rw [hoo]
              simp [Op.operands]
            have hrel := hops x hx
            rw [had] at hrel
            generalize a.eval x = y at hrel
            cases hrel with
            | ptr ha =>
              have hd := ha.dom
              simp only [loadsAt, had]
              simp only [res_st] at hd
              split at hd
              · rename_i hlt
                refine ⟨hlt, ?_⟩
                split at h2
                · rename_i u hu
                  have : ∃ ob, (st i).2.get ad.block = some ob := by
                    cases hg : (st i).2.get ad.block with
                    | some ob => exact ⟨ob, rfl⟩
                    | none => cases sz <;> simp [AHeap.read, AHeap.cell, AHeap.cells, hg] at hu
                  obtain ⟨ob, hob⟩ := this
                  exact ⟨ob, hob, hd⟩
                · cases h2
              · exact absurd rfl hd
        | _ => simp [hcop, heapLoad] at hld
      let ld : Option Nat := if heapLoad (opd (st i).1) c.op = true then some (loadsAt (opd (st i).1) c.op) else none
      have hRb : R P (res φ (st i).2.size) (bare (res φ (st i).2.size) (st i).2 ld) w := by
        refine I.bareR K ?_
        intro id hid hlt b o' k hl
        have hld : heapLoad (opd (st i).1) c.op = true := by
          cases h : heapLoad (opd (st i).1) c.op with
          | true => rfl
          | false => simp [ld, h] at hid
        simp only [ld, hld, if_true, Option.some.injEq] at hid
        obtain ⟨_, ob, hob, hne⟩ := hload hld
        rw [hid] at hob hne
        obtain ⟨b', o'', k', c', e, fr, h3, h4, h5⟩ := I.loads K ho hc hun hr (hlo hld).1 hw (hlo hld).2 hchk hid.symm hlt hob hne
        rw [hl] at h3
        injection h3 with e1 e2 e3
        subst e1; subst e2; subst e3
        exact ⟨c', e, fr, h4, by rw [hob]; simpa using h5⟩
      have hbs : (bare (res φ (st i).2.size) (st i).2 ld).size = (st i).2.size := by unfold bare; rw [mkHeap_size]
      have hind := op_indep hw h2 hbs (by
        intro hld
        obtain ⟨hlt, ob, hob, hne⟩ := hload hld
        obtain ⟨b', o'', k', c', e, fr, h3, h4, h5⟩ := I.loads K ho hc hun hr (hlo hld).1 hw (hlo hld).2 hchk rfl hlt hob hne
        rw [bare_get _ _ _ _ hlt]
        have : res φ (st i).2.size (loadsAt (opd (st i).1) c.op) = .live b' o'' k' := by simp only [res_st]; rw [if_pos hlt]; exact h3
        rw [this, hob]
        simp [ld, hld])
      -- run it over the bare heap
      have fin : ∀ σb, op1 (opd (st i).1) (bare (res φ (st i).2.size) (st i).2 ld) c.op = some (v, σb) → σb.size = (st (i + 1)).2.size → (∀ id, id < (st i).2.size → σb.get id = (bare (res φ (st i).2.size) (st i).2 ld).get id) →
          (∀ id, (st i).2.size ≤ id → id < (st (i + 1)).2.size → id = (st i).2.size ∧ σb.get id = (st (i + 1)).2.get id ∧ ∃ ob, (st (i + 1)).2.get id = some ob ∧ ob.own = true) → o.wp P a w next Q := by
        intro σb h1 hsb hob hnb
        have h1' : op2 (cf i) (opd (st i).1) (bare (res φ (st i).2.size) (st i).2 ld) c.op = some (v, σb) := by rw [op2_op1 hnc]; exact h1
        refine op2_sound (K.snd _) hop hops hRb h1' ?_
        intro φ' w' v' hp hv
        have hown : ∀ b, ¬ Owned (res φ (st i).2.size) (bare (res φ (st i).2.size) (st i).2 ld) b := bare_owned _ _ _
        have hp1 : ∀ id, id < (st i).2.size → φ' id = φ id := by
          intro id hlt
          cases hs : φ id with
          | absent => exact (hp.abs id (by rw [hbs]; exact hlt) (by simp only [res_st]; rw [if_pos hlt]; exact hs)).1
          | dead p =>
            rcases hp.le id (by simp only [res_st]; rw [if_pos hlt, hs]; simp) with e | ⟨e, u⟩
            · simp only [res_st] at e; rw [if_pos hlt, hs] at e; exact e
            · cases p with
              | none => exact e
              | some b => exact absurd (by simp only [res_st]; rw [if_pos hlt, hs]) (u b)
          | live b o' k =>
            rcases hp.le id (by simp only [res_st]; rw [if_pos hlt, hs]; simp) with e | ⟨e, _⟩
            · simp only [res_st] at e; rw [if_pos hlt, hs] at e; exact e
            · have := hp.rel.dead id _ e
              have hrl : res φ (st i).2.size id = .live b o' k := by simp only [res_st]; rw [if_pos hlt]; exact hs
              rw [hob id hlt, bare_get _ _ _ _ hlt, hrl] at this
              cases this
        refine hn _ _ _ _ (I.next_quiet K ho hc hun hr hw hp1 (fun id h => hp.rel.bnd id (by rw [hsb]; exact h)) ?_ ?_ hp.grow hp.env hp.rel.froz hp.le.fz ?_ ?_ hput hv)
        rotate_left 2
        · intro b c hz
          rcases hp.fz b c hz with h | h | h
          · exact .inl h
          · exact absurd h (hown b)
          · exact .inr h
        · intro id b o' k h1 h2 hl
          obtain ⟨h3, h4, ob, h5, h6⟩ := hnb id h1 h2
          exact hp.rel.nofz id b o' k ob hl (by rw [h4]; exact h5) h6
        · intro id h1 h2
          obtain ⟨h3, h4, ob, h5, h6⟩ := hnb id h1 h2
          refine ⟨h3, fun p e => (by have := hp.rel.dead id p e; rw [h4, h5] at this; cases this), fun b o' k hl => ?_⟩
          obtain ⟨obj, c', e, fr, g1, g2, g3, g4⟩ := hp.rel.live id b o' k hl
          refine ⟨obj, c', e, fr, by rw [← h4]; exact g1, g2, g3, g4, ?_⟩
          have habs : res φ (st i).2.size id = .absent := by simp only [res_st]; rw [if_neg (by omega)]
          rcases hp.new id b o' k habs hl with h | h
          · exact absurd h (hown b)
          · exact h
        · intro b hb
          exact hp.keep b hb (hown b)
      rcases hind with ⟨he, h1⟩ | ⟨ob, he, h1, hobo⟩
      · refine .inl (fin _ h1 (by rw [hbs, he]) (fun id _ => rfl) (fun id h3 h4 => ?_))
        rw [he] at h4; omega
      · refine .inl (fin _ h1 (by rw [AHeap.size_push, hbs, he, AHeap.size_push]) (fun id hlt => ?_) (fun id h3 h4 => ?_))
        · rw [AHeap.get_push, hbs, if_neg (by omega)]
        · rw [he, AHeap.size_push] at h4
          have : id = (st i).2.size := by omega
          subst this
          refine ⟨rfl, ?_, ?_⟩
          · rw [AHeap.get_push, hbs, if_pos rfl, he, AHeap.get_push, if_pos rfl]
          · exact ⟨ob, by rw [he, AHeap.get_push, if_pos rfl], hobo⟩
    · rw [hwant _ hwa, if_neg (by simp)]
      refine hn _ _ _ _ (I.next_quiet (φ' := res φ (st i).2.size) (v := undef) (v' := undef) K ho hc hun hr hw (fun id h => by simp only [res_st]; rw [if_pos h]) (fun id h => by rw [h2] at h; simp only [res_st]; rw [if_neg (by omega)]) (fun id h3 h4 => by rw [h2] at h4; omega) (fun _ _ => rfl) (Nat.le_refl _) ⟨rfl, rfl, rfl⟩ I.froz (FLe.refl _) (fun _ _ h => .inl h) (fun id b o' k h3 h4 => by rw [h2] at h4; omega) hput (undef_rel _))

/-! ### The end -/

def leftN (listed : Array Bool) : Nat → Nat
  | 0 => 0
  | n + 1 => leftN listed n + (if listed.getD n false = true then 0 else 1)

theorem leftN_zero {listed : Array Bool} : ∀ n, leftN listed n = 0 → ∀ i, i < n → Done listed i
  | 0, _, i, hi => by omega
  | n + 1, h, i, hi => by
    simp only [leftN] at h
    by_cases hn : listed.getD n false = true
    · by_cases hin : i = n
      · subst hin; exact hn
      · exact leftN_zero n (by rw [if_pos hn] at h; omega) i (by omega)
    · rw [if_neg hn] at h; omega

theorem leftN_set {listed : Array Bool} {i : Nat} (hi : i < listed.size) (hun : ¬ Done listed i) : ∀ n, i < n → leftN (listed.setIfInBounds i true) n + 1 = leftN listed n
  | 0, h => by omega
  | n + 1, h => by
    have same : ∀ m, m ≤ i → leftN (listed.setIfInBounds i true) m = leftN listed m := by
      intro m
      induction m with
      | zero => intro _; rfl
      | succ m ih =>
        intro hm
        simp only [leftN]
        rw [ih (by omega), getD_set_ne false (by omega : i ≠ m)]
    simp only [leftN]
    by_cases hin : i = n
    · subst hin
      rw [same i (Nat.le_refl _)]
      have h1 : (listed.setIfInBounds i true).getD i false = true := (Done.set hi).2 (.inl rfl)
      rw [if_pos h1, if_neg (show ¬ (listed.getD i false = true) from hun)]
    · rw [getD_set_ne false hin]
      have := leftN_set hi hun n (by omega)
      omega

theorem leftN_start (N : Nat) : ∀ n, n ≤ N → leftN (Array.replicate N false) n = n
  | 0, _ => rfl
  | n + 1, h => by
    simp only [leftN]
    rw [leftN_start N n (by omega), if_neg (by simp [Array.getD_eq_getD_getElem?, Array.getElem?_replicate]; split <;> simp)]

theorem Inv.finish (K : Ctx P cf ops nt cs st hs ids) (hR0 : R P φ0 (st 0).2 w0) (I : Inv P ops nt cs st φ0 w0 D listed a w φ m) (hall : ∀ i, i < ops.size → Done listed i) :
    Post P φ0 (st 0).2 w0 φ (st ops.size).2 w ∧ TRel φ (st ops.size).1 a.tmps := by
  have hno : ∀ (k : Nat) (p : AOper), m ≤ k → k < ops.size → cs[k]? = some p → isWriter p.op = false := by
    intro k p h1 h2 hk
    cases hw : isWriter p.op with
    | false => rfl
    | true => have := (I.mw k p hk hw).1 (hall k h2); omega
  have hlt : ∀ id, φ id ≠ .absent → id < (st ops.size).2.size := by
    intro id hid
    rcases I.dom id hid with h | ⟨j, _, hj, _, h⟩
    · exact Nat.lt_of_lt_of_le h (K.sizes (Nat.zero_le _) (Nat.le_refl _))
    · exact Nat.lt_of_lt_of_le h (K.sizes (by omega) (Nat.le_refl _))
  have hlive : ∀ id b o k, φ id = .live b o k → ∃ obj c e fr, (st ops.size).2.get id = some obj ∧ w.heap[b]? = some (.cells c e fr) ∧
      (∀ (j : Nat) (v : Value), obj.cells[j]? = some v → v.one1 = true ∧ ∃ v' : Value, c[o + j]? = some v' ∧ VRel φ v v') ∧
      (obj.own = true → (o = 0 ∧ fr = (0, 0) ∧ e = obj.elem ∧ (∀ n, k = some n → c.size = n * P.cellsOf e)) ∧ (Owned φ0 (st 0).2 b ∨ w0.heap.size ≤ b) ∧ ∀ id2 b2 o2 k2, φ id2 = .live b2 o2 k2 → id2 ≠ id → b2 ≠ b) := by
    intro id b o k hl
    obtain ⟨q, obj, c, e, fr, hmq, hqn, hidq, hcase, hg, hb, hcells, hown⟩ := I.live id b o k hl
    refine ⟨obj, c, e, fr, by rw [K.same hqn (Nat.le_refl _) (fun k p h1 h2 => hno k p (by omega) h2) hidq]; exact hg, hb, fun j v hj => ?_, hown⟩
    obtain ⟨h1, v', h2, h3⟩ := hcells j v hj
    exact ⟨h1, v', h2, h3.mono res_le_self⟩
  refine ⟨⟨K.sizes (Nat.zero_le _) (Nat.le_refl _), I.le, ?_, ⟨?_, ?_, ?_, ?_, I.froz, ?_⟩, ?_, I.new, I.keep, I.grow, I.env, I.fz⟩, ?_⟩
  rotate_left 5
  · intro id b o k obj hl hg ho
    obtain ⟨q, obj', c, e, fr, hmq, hqn, hidq, hcase, hg', hb, hcells, hown⟩ := I.live id b o k hl
    rw [K.same hqn (Nat.le_refl _) (fun k p h1 h2 => hno k p (by omega) h2) hidq, hg'] at hg
    cases hg
    exact I.nofz id b o k q _ hl hmq hqn hidq hcase hg' ho
  rotate_left 2
  · intro id hid h0
    have hz := I.zero id hid h0
    refine ⟨hz, ?_⟩
    have e1 := I.absent id hz 0 m (Nat.zero_le _) (Nat.le_refl _) hid
    have e2 := K.same I.mle (Nat.le_refl _) hno (Nat.lt_of_lt_of_le hid (K.sizes (Nat.zero_le _) I.mle))
    rw [e2, e1]
  · intro id hid
    cases hs : φ id with
    | absent => rfl
    | _ => have := hlt id (by simp [hs]); omega
  · intro id p hd
    obtain ⟨h1, h2⟩ := I.dead id p hd
    rw [K.same I.mle (Nat.le_refl _) hno h1]; exact h2
  · intro id b o k hl
    obtain ⟨obj, c, e, fr, h1, h2, h3, h4⟩ := hlive id b o k hl
    exact ⟨obj, c, e, fr, h1, h2, h3, fun ho => (h4 ho).1⟩
  · intro id id2 b o k b2 o2 k2 obj hl hl2 hg ho hne
    obtain ⟨obj', c, e, fr, h1, h2, h3, h4⟩ := hlive id b o k hl
    rw [hg] at h1; cases h1
    exact Ne.symm ((h4 ho).2.2 id2 b2 o2 k2 hl2 (Ne.symm hne))
  · rintro b ⟨id, o, k, obj, hl, hg, ho⟩
    obtain ⟨obj', c, e, fr, h1, h2, h3, h4⟩ := hlive id b o k hl
    rw [hg] at h1; cases h1
    exact (h4 ho).2.1
  · intro t
    obtain ⟨q, hq, hcase, hv⟩ := I.tm t
    have : (st ops.size).1.at t = (st q).1.at t := by
      refine K.same_tmp hq (Nat.le_refl _) (fun k p h1 h2 hp hd => ?_)
      rcases hcase with ⟨rfl, hn⟩ | ⟨j, p', rfl, hp', hpd, hdone, hmax⟩
      · exact hn k p hp hd (hall k h2)
      · have := hmax k p hp hd (hall k h2); omega
    rw [this]
    exact hv.mono res_le_self

theorem Inv.any (K : Ctx P cf ops nt cs st hs ids) (hR0 : R P φ0 (st 0).2 w0) {Q : Exit → Act → World → Prop}
    (hQ : ∀ φ' a' w', Post P φ0 (st 0).2 w0 φ' (st ops.size).2 w' → TRel φ' (st ops.size).1 a'.tmps → nt ≤ a'.tmps.size → a'.defers = D → Q .normal a' w') :
    ∀ (fuel : Nat) (listed : Array Bool) (a : Act) (w : World) (φ : Phi) (m : Nat), Inv P ops nt cs st φ0 w0 D listed a w φ m → leftN listed ops.size = fuel → wpAny P .any ops Q fuel listed a w
  | 0, listed, a, w, φ, m, I, hf => by
    have hall := leftN_zero _ hf
    refine ⟨?_, ?_⟩
    · cases hrd : Region.ready .any ops listed with
      | nil => rfl
      | cons i rest =>
        obtain ⟨hun, o, ho, _⟩ := mem_ready.1 (show i ∈ Region.ready .any ops listed by rw [hrd]; simp)
        have hil : i < ops.size := (Array.getElem?_eq_some_iff.1 ho).1
        have hd := hall i hil
        unfold Done at hd
        have hsz : i < listed.size := by rw [I.size]; exact hil
        simp [hsz] at hd hun
        rw [hd] at hun; cases hun
    · obtain ⟨hp, ht⟩ := I.finish K hR0 hall
      exact hQ _ _ _ hp ht I.tsz I.df
  | fuel + 1, listed, a, w, φ, m, I, hf => by
    refine ⟨fun hrd => ?_, fun i hi => ?_⟩
    · -- nothing may come up: all is done
      have hall : ∀ i, i < ops.size → Done listed i := by
        intro i
        induction i using Nat.strongRecOn with
        | _ i ih =>
          intro hil
          cases hd : listed.getD i false with
          | true => exact hd
          | false =>
            exfalso
            have hsz : i < listed.size := by rw [I.size]; exact hil
            have : i ∈ Region.ready .any ops listed := by
              refine mem_ready.2 ⟨by simp [hsz] at hd ⊢; exact hd, ops[i], by simp [hil], fun e he hb => ?_⟩
              have hlt := K.edges i ops[i] (by simp [hil]) e (by simpa using he) hb
              exact ih e.on hlt (by omega)
            rw [hrd] at this; cases this
      obtain ⟨hp, ht⟩ := I.finish K hR0 hall
      exact hQ _ _ _ hp ht I.tsz I.df
    · refine I.step K hR0 hi ?_
      intro a' w' φ' m' I'
      refine Inv.any K hR0 hQ fuel _ a' w' φ' m' I' ?_
      obtain ⟨hun, o, ho, _⟩ := mem_ready.1 hi
      have hil : i < ops.size := (Array.getElem?_eq_some_iff.1 ho).1
      have hsz : i < listed.size := by rw [I.size]; exact hil
      have hud : ¬ Done listed i := by
        unfold Done
        simp [hsz] at hun ⊢
        exact hun
      have := leftN_set hsz hud ops.size hil
      omega

end

theorem compOpers_get {ops : List Oper} {nt : Nat} : ∀ {l : List Oper} {cs : List AOper}, compOpers P ops nt l = some cs → cs.length = l.length ∧ ∀ (i : Nat) (o : Oper) (c : AOper), l[i]? = some o → cs[i]? = some c → compOper P ops nt o = some c
  | [], cs, h => by
    simp only [compOpers, Option.some.injEq] at h; subst h
    exact ⟨rfl, fun i o c h => by simp at h⟩
  | o :: l, cs, h => by
    simp only [compOpers] at h
    split at h
    · rename_i x r hx hr
      cases h
      obtain ⟨h1, h2⟩ := compOpers_get hr
      refine ⟨by simp [h1], fun i o' c' ho hc => ?_⟩
      cases i with
      | zero => simp at ho hc; subst ho; subst hc; exact hx
      | succ i => exact h2 i o' c' (by simpa using ho) (by simpa using hc)
    · cases h

theorem mem_zipIdx_get {α : Type} {l : List α} {i : Nat} {x : α} (h : l[i]? = some x) : (x, i) ∈ l.zipIdx := by
  rw [List.mem_zipIdx_iff_getElem?]; simpa using h

theorem dregion_gen {cf : Nat → CallF} (hcf : ∀ k, SndF P (cf k)) (hm : P.follows .mixedOrders = true) {id : Nat} {ops : Array Oper} {nt : Nat} {acs : List AOper} (hc : compC P nt (.region id ops true) = some (.dregion acs)) {τ : Tmps} {σ : AHeap} {τ' : Tmps} {σ' : AHeap}
    {hs1 : List (Nat × AHeap × AHeap)} {ids1 : List (Nat × List Nat)} (hev : evalOpsD cf 0 acs τ σ [] [] = some (τ', σ', hs1, ids1)) (hok : ∀ i ∈ ids1, i.1 < σ.size ∧ ∀ g ∈ hs1, g.1 ∈ i.2 → g.2.2.get i.1 = g.2.1.get i.1) {φ : Phi} {a : Act} {w : World} (hR : R P φ σ w) (hT : TRel φ τ a.tmps) (hs : nt ≤ a.tmps.size) {Q : Exit → Act → World → Prop}
    (hQ : ∀ φ' a' w', Post P φ σ w φ' σ' w' → TRel φ' τ' a'.tmps → nt ≤ a'.tmps.size → a'.defers = a.defers → Q .normal a' w') : (Code.region id ops true).wp P Q a w := by
  simp only [compC] at hc
  split at hc
  · rename_i cs0 hcs0
    split at hc
    · rename_i hb
      simp only [Bool.and_eq_true] at hb
      obtain ⟨⟨hb1, hb2⟩, hb3⟩ := hb
      cases hc
      · have hmixed := hm
        · skip
          obtain ⟨st, h0, hN, htr, _, _⟩ := trace_of _ _ _ _ _ _ _ _ _ _ hev
          obtain ⟨hlen, hget⟩ := compOpers_get hcs0
          have hlen' : cs0.length = ops.size := by simpa using hlen
          have hcs : ∀ (i : Nat) (c : AOper), (cs0.zipIdx.map fun (c, i) => ({ c with chk := cond (isLoad c.op) (needsChk cs0 (masks ops.toList) i) [] } : AOper))[i]? = some c → ∃ c0, cs0[i]? = some c0 ∧ c = { c0 with chk := cond (isLoad c0.op) (needsChk cs0 (masks ops.toList) i) [] } := by
            intro i c hci
            rw [List.getElem?_map, List.getElem?_zipIdx] at hci
            cases h : cs0[i]? with
            | none => simp [h] at hci
            | some c0 => simp [h] at hci; exact ⟨c0, rfl, hci.symm⟩
          have K : Ctx P cf ops nt (cs0.zipIdx.map fun (c, i) => ({ c with chk := cond (isLoad c.op) (needsChk cs0 (masks ops.toList) i) [] } : AOper)) st hs1 ids1 := by
            refine ⟨by simp [hlen'], ?_, ?_, ?_, ?_, ?_, htr, ?_, hcf⟩
            · intro i o c ho hci
              obtain ⟨c0, hc0, rfl⟩ := hcs i c hci
              obtain ⟨a1, a2, a3, a4, a5⟩ := compOper_spec (hget i o c0 (by simpa using ho) hc0)
              exact ⟨a1, a2, a3, a4, a5⟩
            · intro i j o p t ho hp hij ht hd
              have h1 := List.all_eq_true.1 hb1 (o, i) (mem_zipIdx_get (by simpa using ho))
              have h2 := List.all_eq_true.1 h1 t ht
              have h3 := List.all_eq_true.1 h2 (p, j) (mem_zipIdx_get (by simpa using hp))
              simp only [Bool.or_eq_true] at h3
              rcases h3 with (h3 | h3) | h3
              · exact absurd (Nat.eq_of_beq_eq_true h3) hij
              · rw [hd] at h3; simp at h3
              · exact h3
            · intro i j c p hci hpj hcw hpw
              obtain ⟨c0, hc0, rfl⟩ := hcs i c hci
              obtain ⟨p0, hp0, rfl⟩ := hcs j p hpj
              have h1 := List.all_eq_true.1 hb2 (c0, i) (mem_zipIdx_get hc0)
              simp only at hcw hpw
              simp only [hcw, Bool.not_true, Bool.false_or] at h1
              have h2 := List.all_eq_true.1 h1 (p0, j) (mem_zipIdx_get hp0)
              simpa [hpw] using h2
            · intro i j c p hci hpj hcl hck hpw
              obtain ⟨c0, hc0, rfl⟩ := hcs i c hci
              obtain ⟨p0, hp0, rfl⟩ := hcs j p hpj
              simp only at hcl hck hpw
              rw [hcl, cond_true] at hck
              cases ho : ordered (masks ops.toList) i j with
              | true => rfl
              | false =>
                exfalso
                refine hck ?_
                unfold needsChk
                rw [List.mem_map]
                exact ⟨(p0, j), List.mem_filter.2 ⟨mem_zipIdx_get hp0, by simp [hpw, ho]⟩, rfl⟩
            · intro j o ho e' he' hbd
              have h1 := List.all_eq_true.1 hb3 (o, j) (mem_zipIdx_get (by simpa using ho))
              have h2 := List.all_eq_true.1 h1 e' he'
              rw [hbd] at h2
              simpa [Nat.blt_eq] using h2
            · rw [h0]; exact hok
          have hcl : (cs0.zipIdx.map fun (c, i) => ({ c with chk := cond (isLoad c.op) (needsChk cs0 (masks ops.toList) i) [] } : AOper)).length = ops.size := K.len
          rw [hcl] at hN
          have hR0 : R P φ (st 0).2 w.drew := by rw [h0]; exact hR.drew
          refine wp_region_any hm ?_
          have hI := Inv.start (D := a.defers) K hR0 (by rw [h0]; exact hT) hs rfl
          refine Inv.any K hR0 (D := a.defers) ?_ ops.size _ a _ φ 0 hI (leftN_start _ _ (Nat.le_refl _))
          intro φ' a' w' hp ht hsz hdf
          rw [hN] at hp ht
          rw [h0] at hp
          exact hQ φ' a' w' ((Post.drew hR).trans hp) ht hsz hdf
    · cases hc
  · cases hc

theorem dregion_form {id : Nat} {ops : Array Oper} {nt : Nat} {c : ACode} (hc : compC P nt (.region id ops true) = some c) : (∃ acs, c = .dregion acs) ∨ c = .fail := by
  simp only [compC] at hc
  split at hc
  · split at hc
    · cases hc; exact .inl ⟨_, rfl⟩
    · cases hc; exact .inr rfl
  · cases hc; exact .inr rfl

theorem dregion_sound {cf : CallF} (hcf : SndF P cf) (hm : P.follows .mixedOrders = true) {id : Nat} {ops : Array Oper} {nt : Nat} {c : ACode} (hc : compC P nt (.region id ops true) = some c) {n : Nat} {τ : Tmps} {σ : AHeap} {e : AExit} {τ' : Tmps} {σ' : AHeap}
    (he : evalC cf n c τ σ = some (e, τ', σ')) {φ : Phi} {a : Act} {w : World} (hR : R P φ σ w) (hT : TRel φ τ a.tmps) (hs : nt ≤ a.tmps.size) {Q : Exit → Act → World → Prop}
    (hQ : ∀ φ' a' w', Post P φ σ w φ' σ' w' → TRel φ' τ' a'.tmps → nt ≤ a'.tmps.size → a'.defers = a.defers → e = .normal → Q .normal a' w') : (Code.region id ops true).wp P Q a w := by
  rcases dregion_form hc with ⟨acs, rfl⟩ | rfl
  rotate_left
  · simp [evalC] at he
  simp only [evalC] at he
  split at he
  · rename_i τ1 σ1 hs1 ids1 hev
    rw [Bool.cond_eq_ite] at he
    split at he
    · rename_i hok
      simp only [Option.some.injEq, Prod.mk.injEq] at he
      obtain ⟨rfl, rfl, rfl⟩ := he
      exact dregion_gen (fun _ => hcf) hm hc hev (drawnOk_spec hok) hR hT hs (fun φ' a' w' h1 h2 h3 h4 => hQ φ' a' w' h1 h2 h3 h4 rfl)
    · cases he
  · cases he

end Go.Bx

