/-
  AX, PART 14c: regions that draw their order: whatever order is drawn.
-/
import Derived.Test.YtklmapfmilefhaaGreatAxDraw2
import Derived.Test.YtklmapfmilefhaaGreatAxSize
set_option linter.unusedSimpArgs false
set_option linter.unusedVariables false
set_option linter.unusedSectionVars false
namespace Go.Ax
variable {P : Program}

/-- What does not change while the region runs. -/
structure Ctx (P : Program) (cf : CallF) (ops : Array Oper) (nt : Nat) (cs : List AOper) (st : Nat → Tmps × AHeap) (hs : List (Nat × AHeap × AHeap)) (ids : List (Nat × List Nat)) : Prop where
  len : cs.length = ops.size
  spec : ∀ (i : Nat) (o : Oper) (c : AOper), ops[i]? = some o → cs[i]? = some c → compOp P o.op = some c.op ∧ (∀ x ∈ o.op.operands.toList, okOpd x = true) ∧ (∀ d, o.dst = some d → d < nt) ∧ c.dst = o.dst ∧ c.guard = o.guard.map fun (j, w) => (dstOf ops.toList j, w)
  tmps : ∀ (i j : Nat) (o p : Oper) (t : Tmp), ops[i]? = some o → ops[j]? = some p → i ≠ j → t ∈ namesOf ops.toList o → p.dst = some t → ordered (masks ops.toList) i j = true
  wrs : ∀ (i j : Nat) (c p : AOper), cs[i]? = some c → cs[j]? = some p → isWriter c.op = true → isWriter p.op = true → ordered (masks ops.toList) i j = true
  chk : ∀ (i j : Nat) (c p : AOper), cs[i]? = some c → cs[j]? = some p → isLoad c.op = true → j ∉ c.chk → isWriter p.op = true → ordered (masks ops.toList) i j = true
  edges : ∀ (j : Nat) (o : Oper), ops[j]? = some o → ∀ e ∈ o.after.toList, Region.binds .any e = true → e.on < j
  tr : Trace cf cs 0 st hs ids
  ok : ∀ i ∈ ids, i.1 < (st 0).2.size ∧ ∀ g ∈ hs, g.1 ∈ i.2 → g.2.2.get i.1 = g.2.1.get i.1
  snd : SndF P cf

section
variable {cf : CallF} {ops : Array Oper} {nt : Nat} {cs : List AOper} {st : Nat → Tmps × AHeap} {hs : List (Nat × AHeap × AHeap)} {ids : List (Nat × List Nat)}

theorem Ctx.get (K : Ctx P cf ops nt cs st hs ids) {i : Nat} (hi : i < ops.size) : ∃ o c, ops[i]? = some o ∧ cs[i]? = some c :=
  ⟨ops[i], cs[i]'(by rw [K.len]; exact hi), by simp [hi], List.getElem?_eq_getElem _⟩

theorem Ctx.size1 (K : Ctx P cf ops nt cs st hs ids) {i : Nat} (hi : i < ops.size) : (st i).2.size ≤ (st (i + 1)).2.size := by
  obtain ⟨o, c, ho, hc⟩ := K.get hi
  rcases K.tr.step i c hc with ⟨_, v, h2, _⟩ | ⟨_, h2, _⟩
  · exact op2_size (fun f args σ v σ' h => (K.snd f args σ v σ' h).2.1) h2
  · rw [h2]; exact Nat.le_refl _

theorem Ctx.sizes (K : Ctx P cf ops nt cs st hs ids) {i j : Nat} (hij : i ≤ j) (hj : j ≤ ops.size) : (st i).2.size ≤ (st j).2.size := by
  induction j with
  | zero => obtain rfl : i = 0 := by omega
            exact Nat.le_refl _
  | succ j ih =>
    by_cases h : i = j + 1
    · subst h; exact Nat.le_refl _
    · exact Nat.le_trans (ih (by omega) (by omega)) (K.size1 (by omega))

/-- An operation that is no writer keeps the heap, or adds a block. -/
theorem Ctx.quiet (K : Ctx P cf ops nt cs st hs ids) {i : Nat} {c : AOper} (hc : cs[i]? = some c) (hw : isWriter c.op = false) : (st (i + 1)).2 = (st i).2 ∨ ∃ ob, (st (i + 1)).2 = (st i).2.push ob := by
  rcases K.tr.step i c hc with ⟨_, v, h2, _⟩ | ⟨_, h2, _⟩
  · have hnc : isCallA c.op = false := by cases hcop : c.op <;> simp_all [isWriter, isCallA]
    rw [op2_op1 hnc] at h2
    rcases op_indep hw h2 rfl (fun _ => rfl) with ⟨h, _⟩ | ⟨ob, h, _⟩
    · exact .inl h
    · exact .inr ⟨ob, h⟩
  · exact .inl h2

theorem Ctx.quiet_get (K : Ctx P cf ops nt cs st hs ids) {i : Nat} {c : AOper} (hc : cs[i]? = some c) (hw : isWriter c.op = false) {id : Nat} (hid : id < (st i).2.size) : (st (i + 1)).2.get id = (st i).2.get id := by
  rcases K.quiet hc hw with h | ⟨ob, h⟩
  · rw [h]
  · rw [h, AHeap.get_push, if_neg (by omega)]

/-- Between writers nothing changes. -/
theorem Ctx.same (K : Ctx P cf ops nt cs st hs ids) {q1 q2 : Nat} (h12 : q1 ≤ q2) (h2 : q2 ≤ ops.size) (hno : ∀ (k : Nat) (c : AOper), q1 ≤ k → k < q2 → cs[k]? = some c → isWriter c.op = false) {id : Nat} (hid : id < (st q1).2.size) :
    (st q2).2.get id = (st q1).2.get id := by
  induction q2 with
  | zero => obtain rfl : q1 = 0 := by omega
            rfl
  | succ q ih =>
    by_cases h : q1 = q + 1
    · subst h; rfl
    · obtain ⟨o, c, ho, hc⟩ := K.get (show q < ops.size by omega)
      rw [K.quiet_get hc (hno q c (by omega) (by omega) hc) (Nat.lt_of_lt_of_le hid (K.sizes (by omega) (by omega))), ih (by omega) (by omega) (fun k c h1 h2 => hno k c h1 (by omega))]

theorem Ctx.same_tmp (K : Ctx P cf ops nt cs st hs ids) {q1 q2 : Nat} (h12 : q1 ≤ q2) (h2 : q2 ≤ ops.size) {t : Tmp} (hno : ∀ (k : Nat) (p : Oper), q1 ≤ k → k < q2 → ops[k]? = some p → p.dst ≠ some t) : (st q2).1.at t = (st q1).1.at t := by
  induction q2 with
  | zero => obtain rfl : q1 = 0 := by omega
            rfl
  | succ q ih =>
    by_cases h : q1 = q + 1
    · subst h; rfl
    · obtain ⟨o, c, ho, hc⟩ := K.get (show q < ops.size by omega)
      have hd := (K.spec q o c ho hc).2.2.2.1
      have hne := hno q o (by omega) (by omega) ho
      have hput : ∀ v, (putA (st q).1 c.dst v).at t = (st q).1.at t := by
        intro v
        unfold putA
        cases hcd : c.dst with
        | none => rfl
        | some d =>
          simp only [at_set]
          rw [if_neg (fun e => hne (by rw [← hd, hcd, e]))]
      have hst : (st (q + 1)).1.at t = (st q).1.at t := by
        rcases K.tr.step q c hc with ⟨_, v, _, h3, _⟩ | ⟨_, _, h3⟩ <;> rw [h3, hput]
      rw [hst, ih (by omega) (by omega) (fun k p h1 h2 => hno k p h1 (by omega))]

/-- A block that is checked doesn't change at the writers that may come either way. -/
theorem Ctx.checked (K : Ctx P cf ops nt cs st hs ids) {id : Nat} {js : List Nat} (hid : (id, js) ∈ ids) {q1 : Nat} : ∀ q, q1 ≤ q → q ≤ ops.size → (∀ (k : Nat) (c : AOper), q1 ≤ k → k < q → cs[k]? = some c → isWriter c.op = true → k ∈ js) → (st q).2.get id = (st q1).2.get id
  | 0, h, _, _ => by obtain rfl : q1 = 0 := by omega
                     rfl
  | q + 1, h1, hq, hno => by
    by_cases he : q1 = q + 1
    · subst he; rfl
    · have ih := K.checked hid q (by omega) (by omega) (fun k c h1 h2 => hno k c h1 (by omega))
      obtain ⟨o, c, ho, hc⟩ := K.get (show q < ops.size by omega)
      have hlt : id < (st q).2.size := Nat.lt_of_lt_of_le (K.ok _ hid).1 (K.sizes (Nat.zero_le _) (by omega))
      cases hw : isWriter c.op with
      | false => rw [K.quiet_get hc hw hlt, ih]
      | true =>
        rcases K.tr.step q c hc with ⟨_, v, _, _, h4, _⟩ | ⟨_, h4, _⟩
        · have := (K.ok _ hid).2 _ (h4 hw) (by simpa using hno q c (by omega) (by omega) hc hw)
          rw [← ih]; exact this
        · rw [h4, ih]

/-! ### The invariant -/

def Done (listed : Array Bool) (i : Nat) : Prop := listed.getD i false = true

structure Inv (P : Program) (ops : Array Oper) (nt : Nat) (cs : List AOper) (st : Nat → Tmps × AHeap) (φ0 : Phi) (w0 : World) (D : List Deferred) (listed : Array Bool) (a : Act) (w : World) (φ : Phi) (m : Nat) : Prop where
  size : listed.size = ops.size
  closed : ∀ (j : Nat) (o : Oper), ops.toList[j]? = some o → Done listed j → ∀ e ∈ o.after.toList, Region.binds .any e = true → Done listed e.on
  mle : m ≤ ops.size
  mw : ∀ (k : Nat) (c : AOper), cs[k]? = some c → isWriter c.op = true → (Done listed k ↔ k < m)
  mlast : m = 0 ∨ ∃ (k : Nat) (c : AOper), m = k + 1 ∧ cs[k]? = some c ∧ isWriter c.op = true
  dom : ∀ id, φ id ≠ .absent → id < (st 0).2.size ∨ ∃ j, Done listed j ∧ j < ops.size ∧ (st j).2.size ≤ id ∧ id < (st (j + 1)).2.size
  le : Le φ0 φ
  live : ∀ id b o k, φ id = .live b o k → ∃ q obj c e fr, m ≤ q ∧ q ≤ ops.size ∧ id < (st q).2.size ∧ (q = m ∨ ∃ j, q = j + 1 ∧ (st j).2.size ≤ id) ∧ (st q).2.get id = some obj ∧ w.heap[b]? = some (.cells c e fr) ∧
    (∀ (j : Nat) (v : Value), obj.cells[j]? = some v → v.oneCell' = true ∧ ∃ v' : Value, c[o + j]? = some v' ∧ VRel (res φ (st q).2.size) v v') ∧
    (obj.own = true → (o = 0 ∧ fr = (0, 0) ∧ e = obj.elem ∧ (∀ n, k = some n → c.size = n * P.cellsOf e)) ∧ (Owned φ0 (st 0).2 b ∨ w0.heap.size ≤ b) ∧ ∀ id2 b2 o2 k2, φ id2 = .live b2 o2 k2 → id2 ≠ id → b2 ≠ b)
  dead : ∀ id p, φ id = .dead p → id < (st m).2.size ∧ (st m).2.get id = none
  absent : ∀ id, φ id = .absent → ∀ q1 q2, q1 ≤ q2 → q2 ≤ m → id < (st q1).2.size → (st q2).2.get id = (st q1).2.get id
  zero : ∀ id, id < (st 0).2.size → φ0 id = .absent → φ id = .absent
  new : ∀ id b o k, φ0 id = .absent → φ id = .live b o k → Owned φ0 (st 0).2 b ∨ w0.heap.size ≤ b
  keep : ∀ b, b < w0.heap.size → ¬ Owned φ0 (st 0).2 b → w.heap[b]? = w0.heap[b]?
  grow : w0.heap.size ≤ w.heap.size
  env : w.os = w0.os ∧ w.output = w0.output ∧ w.tape = w0.tape
  tm : ∀ t, ∃ q, q ≤ ops.size ∧ ((q = 0 ∧ ∀ (j : Nat) (p : Oper), ops[j]? = some p → p.dst = some t → ¬ Done listed j) ∨
      ∃ (j : Nat) (p : Oper), q = j + 1 ∧ ops[j]? = some p ∧ p.dst = some t ∧ Done listed j ∧ ∀ (j' : Nat) (p' : Oper), ops[j']? = some p' → p'.dst = some t → Done listed j' → j' ≤ j) ∧
    VRel (res φ (st q).2.size) ((st q).1.at t) (a.tmps.getD t undef)
  tsz : nt ≤ a.tmps.size
  df : a.defers = D

variable {φ0 : Phi} {w0 : World} {D : List Deferred} {listed : Array Bool} {a : Act} {w : World} {φ : Phi} {m : Nat}

theorem Inv.start (K : Ctx P cf ops nt cs st hs ids) (hR : R P φ0 (st 0).2 w0) (hT : TRel φ0 (st 0).1 a.tmps) (hsz : nt ≤ a.tmps.size) (hd : a.defers = D) :
    Inv P ops nt cs st φ0 w0 D (Array.replicate ops.size false) a w0 φ0 0 where
  size := by simp
  closed j o _ h := by simp [Done, Array.getD_eq_getD_getElem?, Array.getElem?_replicate] at h; split at h <;> simp at h
  mle := Nat.zero_le _
  mw k c _ _ := by
    constructor
    · intro h; simp [Done, Array.getD_eq_getD_getElem?, Array.getElem?_replicate] at h; split at h <;> simp at h
    · omega
  mlast := .inl rfl
  dom id h := .inl (hR.id_lt h)
  le := Le.refl _
  live id b o k h := by
    obtain ⟨obj, c, e, fr, h1, h2, h3, h4⟩ := hR.live id b o k h
    have hlt := hR.id_lt (i := id) (by rw [h]; simp)
    refine ⟨0, obj, c, e, fr, Nat.le_refl _, Nat.zero_le _, hlt, .inl rfl, h1, h2, ?_, fun ho => ⟨h4 ho, .inl ⟨id, o, k, obj, h, h1, ho⟩, fun id2 b2 o2 k2 h2 hne => Ne.symm (hR.excl id id2 b o k b2 o2 k2 obj h h2 h1 ho (Ne.symm hne))⟩⟩
    intro j v hj
    obtain ⟨h5, v', h6, h7⟩ := h3 j v hj
    refine ⟨h5, v', h6, ?_⟩
    have he : res φ0 (st 0).2.size = φ0 := funext fun i => by
      unfold res
      by_cases hi : i < (st 0).2.size
      · simp [hi]
      · simp [hi, hR.bnd i (by omega)]
    rw [he]; exact h7
  dead id p h := ⟨hR.id_lt (by rw [h]; simp), hR.dead id p h⟩
  absent id _ q1 q2 h1 h2 _ := by obtain rfl : q1 = q2 := by omega
                                  rfl
  zero id _ h := h
  new id b o k h1 h2 := by rw [h1] at h2; cases h2
  keep b _ _ := rfl
  grow := Nat.le_refl _
  env := ⟨rfl, rfl, rfl⟩
  tm t := by
    refine ⟨0, Nat.zero_le _, .inl ⟨rfl, fun j p _ _ h => ?_⟩, ?_⟩
    · simp [Done, Array.getD_eq_getD_getElem?, Array.getElem?_replicate] at h; split at h <;> simp at h
    · have he : res φ0 (st 0).2.size = φ0 := funext fun i => by
        unfold res
        by_cases hi : i < (st 0).2.size
        · simp [hi]
        · simp [hi, hR.bnd i (by omega)]
      rw [he]; exact hT t
  tsz := hsz
  df := hd

/-- What is ordered before an operation that may come up is done; what is ordered behind it is not. -/
theorem Inv.order (I : Inv P ops nt cs st φ0 w0 D listed a w φ m) {i : Nat} {o : Oper} (ho : ops[i]? = some o) (hun : ¬ Done listed i) (hr : ∀ e ∈ o.after.toList, Region.binds .any e = true → Done listed e.on) {j : Nat} {p : Oper} (hp : ops[j]? = some p) (hij : i ≠ j)
    (hord : ordered (masks ops.toList) i j = true) : Done listed j ↔ j < i := by
  have ho' : ops.toList[i]? = some o := by simpa using ho
  have hp' : ops.toList[j]? = some p := by simpa using hp
  unfold ordered at hord
  by_cases hlt : i < j
  · rw [show Nat.blt i j = true by simpa [Nat.blt_eq] using hlt] at hord
    simp only [cond_true] at hord
    constructor
    · intro hd
      exact absurd (mask_closed (S := Done listed) I.closed j p hp' (fun e he hb => I.closed j p hp' hd e he hb) i hord) hun
    · omega
  · rw [show Nat.blt i j = false by cases h : Nat.blt i j with | false => rfl | true => exact absurd (by simpa [Nat.blt_eq] using h) hlt] at hord
    simp only [cond_false, Bool.or_eq_true] at hord
    constructor
    · intro _; omega
    · intro _
      rcases hord with hord | hord
      · exact absurd (Nat.eq_of_beq_eq_true hord) hij
      · exact mask_closed (S := Done listed) I.closed i o ho' hr j hord

theorem Done.set {listed : Array Bool} {i j : Nat} (hi : i < listed.size) : Done (listed.setIfInBounds i true) j ↔ (j = i ∨ Done listed j) := by
  unfold Done
  by_cases h : j = i
  · subst h; simp [hi]
  · rw [getD_set_ne false (Ne.symm h)]; simp [h]

/-- A temporary that an operation names holds, when the operation comes up, what it held there in text order. -/
theorem Inv.tmp (K : Ctx P cf ops nt cs st hs ids) (I : Inv P ops nt cs st φ0 w0 D listed a w φ m) {i : Nat} {o : Oper} (ho : ops[i]? = some o) (hun : ¬ Done listed i) (hr : ∀ e ∈ o.after.toList, Region.binds .any e = true → Done listed e.on) {t : Tmp} (ht : t ∈ namesOf ops.toList o) :
    VRel (res φ (st i).2.size) ((st i).1.at t) (a.tmps.getD t undef) := by
  have hil : i < ops.size := (Array.getElem?_eq_some_iff.1 ho).1
  have hord : ∀ (j : Nat) (p : Oper), ops[j]? = some p → p.dst = some t → j ≠ i → (Done listed j ↔ j < i) := fun j p hp hd hne => I.order ho hun hr hp (Ne.symm hne) (K.tmps i j o p t ho hp (Ne.symm hne) ht hd)
  obtain ⟨q, hq, hcase, hv⟩ := I.tm t
  have hqi : q ≤ i ∧ ∀ (k : Nat) (p : Oper), q ≤ k → k < i → ops[k]? = some p → p.dst ≠ some t := by
    rcases hcase with ⟨rfl, hno⟩ | ⟨j, p, rfl, hp, hpd, hdone, hmax⟩
    · refine ⟨Nat.zero_le _, fun k p _ hk hp hd => ?_⟩
      exact hno k p hp hd ((hord k p hp hd (by omega)).2 hk)
    · have hji : j ≠ i := fun e => hun (e ▸ hdone)
      have hlt := (hord j p hp hpd hji).1 hdone
      refine ⟨hlt, fun k p' hk1 hk2 hp' hd' => ?_⟩
      have := hmax k p' hp' hd' ((hord k p' hp' hd' (by omega)).2 hk2)
      omega
  rw [K.same_tmp hqi.1 (by omega) hqi.2]
  exact hv.mono (res_le (K.sizes hqi.1 (by omega)))

end
end Go.Ax
