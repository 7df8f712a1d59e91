/-
  BX, LOGIC 1: the heap as a list, the temporaries as a list; operations on these.
-/
import Derived.Test.YtcifmjnfigcpmaaGreatBxF
set_option linter.unusedSimpArgs false
set_option linter.unusedVariables false
set_option linter.unusedSectionVars false
namespace Go.Bx
variable {P : Program}

abbrev Hp := List (Option AObj)
abbrev Fr := List (Nat × Value)

def lk : Fr → Nat → Value
  | [], _ => top
  | (k, v) :: r, t => bif Nat.beq t k then v else lk r t

def opdL (τ : Fr) : Operand → Value
  | .tmp t => lk τ t
  | .const v => v
  | .global _ => undef
  | .func f => .func (.func f) #[] #[]

def putL (τ : Fr) (dst : Option Tmp) (v : Value) : Fr :=
  match dst with
  | some d => (d, v) :: τ
  | none => τ

def hget (H : Hp) (i : Nat) : Option AObj := match H[i]? with | some (some o) => some o | _ => none
def hput (H : Hp) (i : Nat) (o : AObj) : Hp := H.set i (some o)
def hkill (H : Hp) (i : Nat) : Hp := H.set i none
def hpush (H : Hp) (o : AObj) : Hp := H ++ [some o]

/-- The list stands for the interpreter's heap. -/
structure Rp (σ : AHeap) (H : Hp) : Prop where
  size : σ.size = H.length
  get : ∀ i, σ.get i = hget H i

theorem hget_lt {H : Hp} {i : Nat} {o : AObj} (h : hget H i = some o) : i < H.length := by
  unfold hget at h
  cases hi : H[i]? with
  | none => simp [hi] at h
  | some x => exact (List.getElem?_eq_some_iff.1 hi).1
theorem hget_ge {H : Hp} {i : Nat} (h : H.length ≤ i) : hget H i = none := by
  unfold hget
  rw [List.getElem?_eq_none h]
theorem hget_put (H : Hp) (j : Nat) (o : AObj) (i : Nat) (hj : j < H.length) : hget (hput H j o) i = if i = j then some o else hget H i := by
  unfold hget hput
  by_cases h : i = j
  · subst h; simp [hj]
  · simp [h, List.getElem?_set_ne (Ne.symm h)]
theorem hget_kill (H : Hp) (j : Nat) (i : Nat) : hget (hkill H j) i = if i = j then none else hget H i := by
  unfold hget hkill
  by_cases h : i = j
  · subst h
    by_cases hl : i < H.length
    · simp [hl]
    · simp [hl]
  · simp [h, List.getElem?_set_ne (Ne.symm h)]
theorem hget_push (H : Hp) (o : AObj) (i : Nat) : hget (hpush H o) i = if i = H.length then some o else hget H i := by
  unfold hget hpush
  by_cases h : i = H.length
  · subst h; simp
  · rcases Nat.lt_or_ge i H.length with hl | hl
    · simp [h, List.getElem?_append_left hl]
    · rw [List.getElem?_eq_none (by simp; omega), if_neg h, List.getElem?_eq_none hl]

theorem Rp.push {σ : AHeap} {H : Hp} (h : Rp σ H) (o : AObj) : Rp (σ.push o) (hpush H o) :=
  ⟨by rw [AHeap.size_push, h.size]; simp [hpush], fun i => by rw [AHeap.get_push, hget_push, h.size, h.get]⟩
theorem Rp.put {σ : AHeap} {H : Hp} (h : Rp σ H) {i : Nat} {o o' : AObj} (hg : hget H i = some o') : Rp (σ.put i o) (hput H i o) :=
  ⟨by rw [AHeap.size_put, h.size]; simp [hput], fun j => by rw [AHeap.get_put, hget_put _ _ _ _ (hget_lt hg), h.get]⟩
theorem Rp.kill {σ : AHeap} {H : Hp} (h : Rp σ H) (i : Nat) : Rp (σ.kill i) (hkill H i) :=
  ⟨by rw [AHeap.size_kill, h.size]; simp [hkill], fun j => by rw [AHeap.get_kill, hget_kill, h.get]⟩

def readH (H : Hp) (sz : Option Nat) (a : Addr) : Option Value :=
  match hget H a.block with
  | some o => partA sz o.cells a.off
  | none => none

theorem readH_eq {σ : AHeap} {H : Hp} (h : Rp σ H) (sz : Option Nat) (a : Addr) : σ.read sz a = readH H sz a := by
  unfold AHeap.read readH AHeap.cell AHeap.cells
  simp only [h.get]
  cases hg : hget H a.block with
  | none => cases sz <;> rfl
  | some o =>
    cases sz with
    | none => rfl
    | some n =>
      simp only [partA]
      cases Nat.ble (a.off + n) o.cells.length <;> rfl

def cellsH (H : Hp) (a : Addr) (n : Nat) : Option (List Value) :=
  match hget H a.block with
  | some o => cond (Nat.ble (a.off + n) o.cells.length) (some ((o.cells.drop a.off).take n)) none
  | none => none
theorem cellsH_eq {σ : AHeap} {H : Hp} (h : Rp σ H) (a : Addr) (n : Nat) : σ.cells a n = cellsH H a n := by
  unfold AHeap.cells cellsH
  rw [h.get]
  cases hget H a.block <;> rfl

def appCellsH (H : Hp) (sz : Nat) : Value → Option (Nat × List Value)
  | .slice none _ _ => some (0, [])
  | .slice (some a) n _ => cond (Nat.beq n 0) (some (0, [])) (match cellsH H a (n * sz) with | some cs => some (n, cs) | none => none)
  | .func (.yield n) xs _ => cond (Nat.beq xs.toList.length (n * sz)) (some (n, xs.toList)) none
  | .string s => cond (Nat.beq sz 1) (some (s.size, strCells s)) none
  | _ => none
theorem appCellsH_eq {σ : AHeap} {H : Hp} (h : Rp σ H) (sz : Nat) (v : Value) : appCells σ sz v = appCellsH H sz v := by
  cases v with
  | slice a n c => cases a with
    | none => rfl
    | some a => simp only [appCells, appCellsH, cellsH_eq h]; cases cellsH H a (n * sz) <;> rfl
  | func fn xs ys => cases fn <;> rfl
  | _ => rfl

def appendH (e : TypeId) (sz bytes : Nat) (s x : Value) (H : Hp) : Option (Value × Hp) :=
  match appCellsH H sz x with
  | none => none
  | some (n, new) =>
    match s with
    | .slice none l _ =>
      cond (Nat.beq l 0) (cond (Nat.beq n 0) (some (.slice none 0 0, H))
        (cond (Nat.ble (n * bytes) 140737488355328 && Nat.ble n 140737488355328)
          (some (.slice (some ⟨H.length, 0, none⟩) n 1, hpush H ⟨new, e, true⟩)) none)) none
    | .slice (some a) l fl =>
      cond (Nat.beq n 0) (some (s, H)) (
      match hget H a.block with
      | none => none
      | some o =>
        cond (o.own && Nat.beq fl 1 && Nat.beq o.elem e && Nat.ble ((l + n) * bytes) 140737488355328 && Nat.ble (l + n) 140737488355328 && Nat.ble (l * sz) o.cells.length)
          (cond (Nat.ble ((l + n) * sz) o.cells.length)
            (some (.slice (some a) (l + n) 1, hput H a.block ⟨setAt o.cells (l * sz) new, e, true⟩))
            (some (.slice (some ⟨H.length, 0, none⟩) (l + n) 1, hpush (hkill H a.block) ⟨o.cells.take (l * sz) ++ new, e, true⟩)))
          none)
    | _ => none

def copyH (sz : Nat) (d s : Value) (H : Hp) : Option (Value × Hp) :=
  match appCellsH H sz s with
  | none => none
  | some (n, new) =>
    match d with
    | .slice none _ _ => some (.int .i64 0, H)
    | .slice (some a) dl _ =>
      cond (Nat.beq (min n dl) 0) (some (.int .i64 0, H)) (
      match hget H a.block with
      | none => none
      | some o =>
        cond (o.own && Nat.ble (a.off + (min n dl) * sz) o.cells.length)
          (some (.int .i64 (min n dl : Nat), hput H a.block ⟨setAt o.cells a.off (new.take ((min n dl) * sz)), o.elem, true⟩)) none)
    | _ => none

/-- Operations that neither call nor look at the heap. -/
def heapless : AOp → Bool
  | .alloc .. | .box .. | .buildSlice .. | .load .. | .store .. | .makeSlice .. | .append .. | .copy .. | .call .. | .invoke .. => false
  | _ => true

def opS (ρ : Operand → Value) (H : Hp) : AOp → Option (Value × Hp)
  | .alloc e zc => some (.pointer (some ⟨H.length, 0, none⟩), hpush H ⟨zc, e, true⟩)
  | .box e x => cond (storable (ρ x)) (some (.pointer (some ⟨H.length, 0, none⟩), hpush H ⟨(ρ x).cells.toList, e, true⟩)) none
  | .buildSlice e zc len parts => match fillL zc (parts.map fun p => (p.1, p.2.1, ρ p.2.2)) with
    | some cs => some (.slice (some ⟨H.length, 0, none⟩) len 1, hpush H ⟨cs, e, true⟩) | none => none
  | .load sz x => match ρ x with
    | .pointer (some a) => (match readH H sz a with | some v => some (v, H) | none => none)
    | .func (.methodOf _ _) xs _ => (match partA sz xs.toList 0 with | some v => some (v, H) | none => none)
    | _ => none
  | .store sz x v => match ρ x with
    | .pointer (some a) => (match hget H a.block with
      | some o => cond (o.own && storable (ρ v) && Nat.beq (ρ v).cells.size sz && Nat.ble (a.off + sz) o.cells.length)
          (some (undef, hput H a.block ⟨setAt o.cells a.off (ρ v).cells.toList, o.elem, true⟩)) none
      | none => none)
    | _ => none
  | .makeSlice e zc bytes l c => match ρ l, ρ c with
    | .int _ a, .int _ b => cond (decide (0 ≤ a) && decide (a ≤ b) && decide (b * bytes ≤ 140737488355328) && decide (b ≤ 140737488355328))
        (some (.slice (some ⟨H.length, 0, none⟩) a.toNat 1, hpush H ⟨(List.replicate b.toNat zc).flatten, e, true⟩)) none
    | _, _ => none
  | .append e sz bytes s x => appendH e sz bytes (ρ s) (ρ x) H
  | .copy sz d s => copyH sz (ρ d) (ρ s) H
  | .call _ _ => none
  | .invoke _ _ _ => none
  | op => match op1 ρ AHeap.empty op with | some (v, _) => some (v, H) | none => none

theorem op1_heapless {ρ : Operand → Value} {op : AOp} (hl : heapless op = true) {σ τ : AHeap} {v : Value} {σ' : AHeap} (h : op1 ρ σ op = some (v, σ')) : σ' = σ ∧ op1 ρ τ op = some (v, τ) := by
  cases op with
  | alloc => cases hl
  | box => cases hl
  | buildSlice => cases hl
  | load => cases hl
  | store => cases hl
  | makeSlice => cases hl
  | append => cases hl
  | copy => cases hl
  | call => cases hl
  | invoke => cases hl
  | idxAddr len sz x i =>
    cases len <;> simp only [op1] at h ⊢ <;> (split at h <;> first
      | (cases h; done)
      | (split at h <;> first | (cases h; done) | (cases h; exact ⟨rfl, by simp_all⟩)))
  | lenO b x =>
    cases b <;> simp only [op1] at h ⊢ <;> (split at h <;> first | (cases h; done) | (cases h; exact ⟨rfl, by simp_all⟩))
  | tassert x t z ok =>
    simp only [op1] at h ⊢
    split at h
    · rename_i u y hx
      cases hb : Nat.beq u t <;> cases ok <;> simp only [hb, cond_true, cond_false, reduceCtorEq, Option.some.injEq, Prod.mk.injEq] at h ⊢ <;> (obtain ⟨rfl, rfl⟩ := h; simp)
    · cases ok <;> simp only [cond_true, cond_false, reduceCtorEq, Option.some.injEq, Prod.mk.injEq] at h ⊢ <;> (obtain ⟨rfl, rfl⟩ := h; simp)
    · cases h
  | _ =>
    simp only [op1] at h ⊢
    first
      | (cases h; exact ⟨rfl, rfl⟩)
      | (repeat' split at h) <;> first
        | (cases h; done)
        | (cases h; exact ⟨rfl, by simp_all⟩)
        | (rw [Bool.cond_eq_ite] at h; split at h <;> first | (cases h; done) | (cases h; exact ⟨rfl, by simp_all⟩))
        | skip

theorem opS_heapless {ρ : Operand → Value} {H : Hp} {op : AOp} (hl : heapless op = true) : opS ρ H op = match op1 ρ AHeap.empty op with | some (v, _) => some (v, H) | none => none := by
  cases op <;> first | rfl | cases hl

theorem opS_sound {ρ : Operand → Value} {σ : AHeap} {H H' : Hp} (hr : Rp σ H) {op : AOp} {v : Value} (h : opS ρ H op = some (v, H')) : ∃ σ', op1 ρ σ op = some (v, σ') ∧ Rp σ' H' := by
  cases hl : heapless op with
  | true =>
    rw [opS_heapless hl] at h
    split at h
    · rename_i v0 σ0 h1
      cases h
      exact ⟨σ, (op1_heapless hl h1).2, hr⟩
    · cases h
  | false =>
    cases op with
    | alloc e zc =>
      simp only [opS, Option.some.injEq, Prod.mk.injEq] at h
      obtain ⟨rfl, rfl⟩ := h
      exact ⟨_, by simp only [op1, hr.size], hr.push _⟩
    | box e x =>
      simp only [opS] at h
      rw [Bool.cond_eq_ite] at h
      split at h
      · rename_i hb
        cases h
        exact ⟨_, by simp only [op1, hb, cond_true, hr.size], hr.push _⟩
      · cases h
    | buildSlice e zc len parts =>
      simp only [opS] at h
      split at h
      · rename_i cs hc
        cases h
        exact ⟨_, by simp only [op1, hc, hr.size], hr.push _⟩
      · cases h
    | load sz x =>
      simp only [opS] at h
      split at h
      · rename_i a ha
        split at h
        · rename_i u hu
          cases h
          exact ⟨σ, by simp only [op1, ha, readH_eq hr, hu], hr⟩
        · cases h
      · rename_i t nm xs ys hx
        split at h
        · rename_i u hu
          cases h
          exact ⟨σ, by simp only [op1, hx, hu], hr⟩
        · cases h
      · cases h
    | store sz x y =>
      simp only [opS] at h
      split at h
      · rename_i a ha
        split at h
        · rename_i o ho
          rw [Bool.cond_eq_ite] at h
          split at h
          · rename_i hb
            cases h
            exact ⟨_, by simp only [op1, ha, hr.get, ho, hb, cond_true], hr.put ho⟩
          · cases h
        · cases h
      · cases h
    | makeSlice e zc bytes l c =>
      simp only [opS] at h
      split at h
      · rename_i ka a kb b hla hcb
        rw [Bool.cond_eq_ite] at h
        split at h
        · rename_i hb
          cases h
          refine ⟨_, ?_, hr.push _⟩
          simp only [op1, hla, hcb]
          rw [Bool.cond_eq_ite, if_pos hb, hr.size]
        · cases h
      · cases h
    | append e sz bytes s x =>
      simp only [opS] at h
      simp only [op1]
      unfold appendH at h
      unfold appendA
      rw [appCellsH_eq hr]
      split at h
      · cases h
      · rename_i n new hn
        simp only [hn]
        split at h
        · rename_i l fl hs
          simp only [hs]
          rw [Bool.cond_eq_ite] at h ⊢
          split at h
          · rename_i hl0
            rw [if_pos hl0]
            rw [Bool.cond_eq_ite] at h ⊢
            split at h
            · rename_i hn0
              cases h
              exact ⟨σ, by rw [if_pos hn0], hr⟩
            · rename_i hn0
              rw [Bool.cond_eq_ite] at h
              split at h
              · rename_i hb
                cases h
                exact ⟨_, by rw [if_neg hn0, Bool.cond_eq_ite, if_pos hb, hr.size], hr.push _⟩
              · cases h
          · cases h
        · rename_i a l fl hs
          simp only [hs]
          rw [Bool.cond_eq_ite] at h ⊢
          split at h
          · rename_i hn0
            cases h
            exact ⟨σ, by rw [if_pos hn0, hs], hr⟩
          · rename_i hn0
            rw [if_neg hn0, hr.get]
            split at h
            · cases h
            · rename_i o ho
              simp only [ho]
              rw [Bool.cond_eq_ite] at h ⊢
              split at h
              · rename_i hb
                rw [if_pos hb]
                rw [Bool.cond_eq_ite] at h ⊢
                split at h
                · rename_i hin
                  cases h
                  exact ⟨_, by rw [if_pos hin], hr.put ho⟩
                · rename_i hin
                  cases h
                  refine ⟨_, by rw [if_neg hin, hr.size], ?_⟩
                  exact (hr.kill _).push _
              · cases h
        · cases h
    | copy sz d s =>
      simp only [opS] at h
      simp only [op1]
      unfold copyH at h
      unfold copyA
      rw [appCellsH_eq hr]
      split at h
      · cases h
      · rename_i n new hn
        simp only [hn]
        split at h
        · rename_i hs
          cases h
          exact ⟨σ, by simp only [hs], hr⟩
        · rename_i a dl fl hs
          simp only [hs]
          rw [Bool.cond_eq_ite] at h ⊢
          split at h
          · rename_i hn0
            cases h
            exact ⟨σ, by rw [if_pos hn0], hr⟩
          · rename_i hn0
            rw [if_neg hn0, hr.get]
            split at h
            · cases h
            · rename_i o ho
              simp only [ho]
              rw [Bool.cond_eq_ite] at h ⊢
              split at h
              · rename_i hb
                cases h
                exact ⟨_, by rw [if_pos hb], hr.put ho⟩
              · cases h
        · cases h
    | call => simp [opS] at h
    | invoke => simp [opS] at h
    | _ => cases hl

/-! ### Temporaries -/

def LRel (φ : Phi) (τ : Fr) (tmps : Array Value) : Prop := ∀ t, VRel φ (lk τ t) (tmps.getD t undef)
def RepT (τT : Tmps) (τ : Fr) : Prop := ∀ t, τT.at t = lk τ t

def toT : Fr → Tmps
  | [] => .nil
  | (k, v) :: r => (toT r).set k (some v)
theorem toT_at : ∀ (τ : Fr), RepT (toT τ) τ
  | [], _ => rfl
  | (k, v) :: r, t => by
    rw [toT, at_set, lk]
    by_cases h : t = k
    · subst h; simp
    · rw [if_neg h, beqF h]; exact toT_at r t

theorem LRel.toT {φ : Phi} {τ : Fr} {tmps : Array Value} (h : LRel φ τ tmps) : TRel φ (toT τ) tmps := fun t => by rw [toT_at]; exact h t
theorem LRel.of {φ : Phi} {τT : Tmps} {τ : Fr} {tmps : Array Value} (hr : RepT τT τ) (h : TRel φ τT tmps) : LRel φ τ tmps := fun t => by rw [← hr]; exact h t
theorem RepT.opd {τT : Tmps} {τ : Fr} (h : RepT τT τ) : Bx.opd τT = opdL τ := by
  funext x
  cases x with
  | tmp t => exact h t
  | _ => rfl
theorem RepT.put {τT : Tmps} {τ : Fr} (h : RepT τT τ) (d : Option Tmp) (v : Value) : RepT (putA τT d v) (putL τ d v) := by
  cases d with
  | none => exact h
  | some d =>
    intro t
    simp only [putA, putL, at_set, lk]
    by_cases ht : t = d
    · subst ht; simp
    · rw [if_neg ht, beqF ht]; exact h t
theorem LRel.mono {φ φ' : Phi} {τ : Fr} {tmps : Array Value} (h : LRel φ τ tmps) (hl : Le φ φ') : LRel φ' τ tmps := fun t => (h t).mono hl
theorem LRel.put {φ : Phi} {τ : Fr} {a : Act} {dst : Option Tmp} {v v' : Value} (h : LRel φ τ a.tmps) (hv : VRel φ v v') (hd : ∀ d, dst = some d → d < a.tmps.size) : LRel φ (putL τ dst v) (a.put dst v').tmps :=
  .of ((toT_at τ).put dst v) (h.toT.put hv hd)

end Go.Bx

namespace Go.Bx
variable {P : Program}

/-- A call does this. -/
def Spec (P : Program) (f : FuncId) (args : List Value) (σ : AHeap) (v : Value) (σ' : AHeap) : Prop :=
  (∃ fn, P.funcs[f]? = some fn) ∧ σ.size ≤ σ'.size ∧
  ∀ φ w args', R P φ σ w → VsRel φ args args' → CallsE P f args'.toArray w fun e w' => ∃ φ' v', e = .returned v' ∧ VRel φ' v v' ∧ Post P φ σ w φ' σ' w'

theorem SndF.spec {cf : CallF} (h : SndF P cf) {f : FuncId} {args : List Value} {σ : AHeap} {v : Value} {σ' : AHeap} (he : cf f args σ = some (v, σ')) : Spec P f args σ v σ' := h f args σ v σ' he

/-- One known call. -/
noncomputable def one (f : FuncId) (args : List Value) (σ : AHeap) (v : Value) (σ' : AHeap) : CallF := open Classical in
  fun g as τ => if g = f ∧ as = args ∧ τ = σ then some (v, σ') else none
theorem one_sound {f : FuncId} {args : List Value} {σ : AHeap} {v : Value} {σ' : AHeap} (h : Spec P f args σ v σ') : SndF P (one f args σ v σ') := by
  intro g as τ u τ' he
  unfold one at he
  split at he
  · rename_i hc
    obtain ⟨rfl, rfl, rfl⟩ := hc
    cases he
    exact h
  · cases he
theorem one_self (f : FuncId) (args : List Value) (σ : AHeap) (v : Value) (σ' : AHeap) : one f args σ v σ' f args σ = some (v, σ') := by
  unfold one
  rw [if_pos ⟨rfl, rfl, rfl⟩]

/-- The same, of heaps as lists. -/
def SpecH (P : Program) (f : FuncId) (args : List Value) (H : Hp) (v : Value) (H' : Hp) : Prop :=
  ∀ σ, Rp σ H → ∃ σ', Rp σ' H' ∧ Spec P f args σ v σ'

/-! ### States -/

/-- What is known at a point of a function: 'b' tells the beginning. -/
structure Beg where
  φ : Phi
  σ : AHeap
  w : World

structure At (P : Program) (nt k : Nat) (b : Beg) (τ : Fr) (H : Hp) (a : Act) (w : World) : Prop where
  beg : R P b.φ b.σ b.w
  out : ∃ φ σ, Rp σ H ∧ Post P b.φ b.σ b.w φ σ w ∧ LRel φ τ a.tmps
  sz : nt ≤ a.tmps.size
  k : b.σ.size = k

/-- Weaker knowledge of the same point. -/
def Wk (P : Program) (k : Nat) (τ : Fr) (H : Hp) (τ' : Fr) (H' : Hp) : Prop :=
  ∀ (b : Beg) (w : World) (tmps : Array Value), b.σ.size = k → R P b.φ b.σ b.w → (∃ φ σ, Rp σ H ∧ Post P b.φ b.σ b.w φ σ w ∧ LRel φ τ tmps) → ∃ φ σ, Rp σ H' ∧ Post P b.φ b.σ b.w φ σ w ∧ LRel φ τ' tmps

theorem Wk.refl {k : Nat} {τ : Fr} {H : Hp} : Wk P k τ H τ H := fun _ _ _ _ _ h => h
theorem Wk.trans {k : Nat} {τ τ1 τ2 : Fr} {H H1 H2 : Hp} (h : Wk P k τ H τ1 H1) (h' : Wk P k τ1 H1 τ2 H2) : Wk P k τ H τ2 H2 := fun b w t hk hb hh => h' b w t hk hb (h b w t hk hb hh)
theorem Wk.at {nt k : Nat} {τ τ1 : Fr} {H H1 : Hp} (h : Wk P k τ H τ1 H1) {b : Beg} {a : Act} {w : World} (ha : At P nt k b τ H a w) : At P nt k b τ1 H1 a w :=
  ⟨ha.beg, h b w a.tmps ha.k ha.beg ha.out, ha.sz, ha.k⟩

abbrev Out := AExit → Fr → Hp → Prop

def WpC (P : Program) (nt k : Nat) (ac : ACode) (τ : Fr) (H : Hp) (K : Out) : Prop :=
  ∀ c, compC P nt c = some ac → ∀ (b : Beg) (a : Act) (w : World), At P nt k b τ H a w → ∀ (Q : Exit → Act → World → Prop),
    (∀ e τ' H' a' w', K e τ' H' → At P nt k b τ' H' a' w' → a'.defers = a.defers → Q e.to a' w') → c.wp P Q a w

def WpO (P : Program) (nt k : Nat) (cs : List AOper) (τ : Fr) (H : Hp) (K : Fr → Hp → Prop) : Prop :=
  ∀ (ops : Array Oper) (kk m : Nat), kk + m ≤ ops.size → compOpers P ops.toList nt ((ops.toList.drop kk).take m) = some cs → ∀ (b : Beg) (a : Act) (w : World), At P nt k b τ H a w →
    ∀ (Q : Exit → Act → World → Prop) (tail : List Nat), (∀ τ' H' a' w', K τ' H' → At P nt k b τ' H' a' w' → a'.defers = a.defers → wpOps P ops Q tail a' w') → wpOps P ops Q (List.range' kk m ++ tail) a w

theorem WpC.wk {nt k : Nat} {ac : ACode} {τ τ1 : Fr} {H H1 : Hp} {K : Out} (hw : Wk P k τ H τ1 H1) (h : WpC P nt k ac τ1 H1 K) : WpC P nt k ac τ H K :=
  fun c hc b a w ha Q hQ => h c hc b a w (hw.at ha) Q hQ
theorem WpO.wk {nt k : Nat} {cs : List AOper} {τ τ1 : Fr} {H H1 : Hp} {K : Fr → Hp → Prop} (hw : Wk P k τ H τ1 H1) (h : WpO P nt k cs τ1 H1 K) : WpO P nt k cs τ H K :=
  fun ops kk m hk hc b a w ha Q tail hQ => h ops kk m hk hc b a w (hw.at ha) Q tail hQ
theorem WpC.mono {nt k : Nat} {ac : ACode} {τ : Fr} {H : Hp} {K K' : Out} (h : WpC P nt k ac τ H K) (hk : ∀ e τ H, K e τ H → K' e τ H) : WpC P nt k ac τ H K' :=
  fun c hc b a w ha Q hQ => h c hc b a w ha Q (fun e τ' H' a' w' hK => hQ e τ' H' a' w' (hk _ _ _ hK))
theorem WpO.mono {nt k : Nat} {cs : List AOper} {τ : Fr} {H : Hp} {K K' : Fr → Hp → Prop} (h : WpO P nt k cs τ H K) (hk : ∀ τ H, K τ H → K' τ H) : WpO P nt k cs τ H K' :=
  fun ops kk m hkk hc b a w ha Q tail hQ => h ops kk m hkk hc b a w ha Q tail (fun τ' H' a' w' hK => hQ τ' H' a' w' (hk _ _ hK))

/-! ### Operations in text order -/

theorem wo_nil {nt k : Nat} {τ : Fr} {H : Hp} {K : Fr → Hp → Prop} (h : K τ H) : WpO P nt k [] τ H K := by
  intro ops kk m hk hc b a w ha Q tail hQ
  have hm : m = 0 := by
    cases hl : (ops.toList.drop kk).take m with
    | nil =>
      have := congrArg List.length hl
      simp at this; omega
    | cons x y =>
      rw [hl] at hc
      simp only [compOpers] at hc
      split at hc <;> cases hc
  subst hm
  exact hQ τ H a w h ha rfl

theorem wo_cons {ops : Array Oper} {nt kk m : Nat} {c : AOper} {rest : List AOper} (hc : compOpers P ops.toList nt ((ops.toList.drop kk).take m) = some (c :: rest)) :
    ∃ m', m = m' + 1 ∧ ∃ (h : kk < ops.size), compOper P ops.toList nt ops[kk] = some c ∧ compOpers P ops.toList nt ((ops.toList.drop (kk + 1)).take m') = some rest := by
  cases m with
  | zero => simp [compOpers] at hc
  | succ m =>
    refine ⟨m, rfl, ?_⟩
    by_cases hlt : kk < ops.size
    · refine ⟨hlt, ?_⟩
      have hd : ops.toList.drop kk = ops[kk] :: ops.toList.drop (kk + 1) := by
        rw [List.drop_eq_getElem_cons (by simpa using hlt)]; simp
      rw [hd, List.take_succ_cons] at hc
      simp only [compOpers] at hc
      split at hc
      · rename_i x r hx hr
        cases hc
        exact ⟨hx, hr⟩
      · cases hc
    · rw [List.drop_eq_nil_of_le (by simp; omega)] at hc
      simp [compOpers] at hc

/-- One operation: what it does is known for every state that fits. -/
theorem wo_step {nt k : Nat} {c : AOper} {rest : List AOper} {τ τ' : Fr} {H H' : Hp} {K : Fr → Hp → Prop} (hk : WpO P nt k rest τ' H' K)
    (hs : ∀ (ops : Array Oper) (kk : Nat) (hlt : kk < ops.size), compOper P ops.toList nt ops[kk] = some c → ∀ (b : Beg) (a : Act) (w : World), At P nt k b τ H a w → ∀ (Q : Exit → Act → World → Prop) (l : List Nat),
      (∀ a' w', At P nt k b τ' H' a' w' → a'.defers = a.defers → wpOps P ops Q l a' w') → wpOps P ops Q (kk :: l) a w) : WpO P nt k (c :: rest) τ H K := by
  intro ops kk m hkk hc b a w ha Q tail hQ
  obtain ⟨m', rfl, hlt, h1, h2⟩ := wo_cons hc
  rw [List.range'_succ, List.cons_append]
  refine hs ops kk hlt h1 b a w ha Q _ ?_
  intro a' w' ha' hd
  refine hk ops (kk + 1) m' (by omega) h2 b a' w' ha' Q tail ?_
  intro τ2 H2 a2 w2 hK ha2 hd2
  exact hQ τ2 H2 a2 w2 hK ha2 (hd2.trans hd)

theorem opdL_rel {φ : Phi} {τ : Fr} {a : Act} (h : LRel φ τ a.tmps) (x : Operand) (hx : okOpd x = true) : VRel φ (opdL τ x) (a.eval x) := by
  have := opd_rel h.toT x hx
  rwa [(toT_at τ).opd] at this

def wantedL (τ : Fr) : Option (Option Tmp × Bool) → Option Bool
  | none => some true
  | some (none, _) => some false
  | some (some t, want) => match lk τ t with | .bool b => some (b == want) | .chan _ => none | _ => some false
theorem wantedL_eq (τ : Fr) (g : Option (Option Tmp × Bool)) : wantedA (toT τ) g = wantedL τ g := by
  rcases g with _ | ⟨_ | t, w⟩
  · rfl
  · rfl
  · simp only [wantedA, wantedL, toT_at τ t]; rfl

theorem wo_does {nt k : Nat} {c : AOper} {τ : Fr} {H H' : Hp} {v : Value} (hw : wantedL τ c.guard = some true) {cf : CallF} (hcf : SndF P cf)
    (ho : ∀ (b : Beg) (σ : AHeap), Rp σ H → ∃ cf, SndF P cf ∧ ∃ σ', op2 cf (opdL τ) σ c.op = some (v, σ') ∧ Rp σ' H') :
    ∀ (ops : Array Oper) (kk : Nat) (hlt : kk < ops.size), compOper P ops.toList nt ops[kk] = some c → ∀ (b : Beg) (a : Act) (w : World), At P nt k b τ H a w → ∀ (Q : Exit → Act → World → Prop) (l : List Nat),
      (∀ a' w', At P nt k b (putL τ c.dst v) H' a' w' → a'.defers = a.defers → wpOps P ops Q l a' w') → wpOps P ops Q (kk :: l) a w := by
  intro ops kk hlt hc b a w ha Q l hQ
  obtain ⟨hop, hok, hdst, hcd, hcg⟩ := compOper_spec hc
  obtain ⟨hbg, ⟨φ, σ, hr, hp, hT⟩, hsz, hk⟩ := ha
  have hget : ops[kk]? = some ops[kk] := by simp [hlt]
  have hwr := wanted_rel (φ := φ) (τ := toT τ) (a := a) (ops := ops) (o := ops[kk]) (fun j w d _ _ => hT.toT d) true (by rw [← hcg, wantedL_eq]; exact hw)
  simp only [wpOps, hget, hwr, if_true]
  obtain ⟨cf, hcf, σ', h2, hr'⟩ := ho b σ hr
  refine .inl (op2_sound hcf hop (fun x hx => opdL_rel hT x (hok x hx)) hp.rel h2 ?_)
  intro φ1 w1 v' hp1 hv
  rw [hcd] at hQ
  exact hQ _ _ ⟨hbg, ⟨φ1, σ', hr', hp.trans hp1, (hT.mono hp1.le).put hv (fun d e => Nat.lt_of_lt_of_le (hdst d e) hsz)⟩, by rw [put_size]; exact hsz, hk⟩ (put_defers' _ _ _)

theorem sndF_none : SndF P (fun _ _ _ => none) := fun _ _ _ _ _ h => by cases h

theorem wo_op {nt k : Nat} {dst : Option Tmp} {op : AOp} {g : Option (Option Tmp × Bool)} {chk : List Nat} {rest : List AOper} {τ : Fr} {H H' : Hp} {v : Value} {K : Fr → Hp → Prop}
    (hw : wantedL τ g = some true) (ho : opS (opdL τ) H op = some (v, H')) (h : WpO P nt k rest (putL τ dst v) H' K) : WpO P nt k (⟨dst, op, g, chk⟩ :: rest) τ H K :=
  wo_step h (wo_does (c := ⟨dst, op, g, chk⟩) hw sndF_none (fun b σ hr => by
    obtain ⟨σ', h1, h2⟩ := opS_sound hr ho
    refine ⟨_, sndF_none, σ', ?_, h2⟩
    rw [op2_op1]
    · exact h1
    · cases op <;> first | rfl | (simp [opS] at ho)))

theorem wo_skip {nt k : Nat} {dst : Option Tmp} {op : AOp} {g : Option (Option Tmp × Bool)} {chk : List Nat} {rest : List AOper} {τ : Fr} {H : Hp} {K : Fr → Hp → Prop}
    (hw : wantedL τ g = some false) (h : WpO P nt k rest (putL τ dst undef) H K) : WpO P nt k (⟨dst, op, g, chk⟩ :: rest) τ H K := by
  refine wo_step h ?_
  intro ops kk hlt hc b a w ha Q l hQ
  obtain ⟨hop, hok, hdst, hcd, hcg⟩ := compOper_spec hc
  obtain ⟨hbg, ⟨φ, σ, hr, hp, hT⟩, hsz, hk⟩ := ha
  have hget : ops[kk]? = some ops[kk] := by simp [hlt]
  have hwr := wanted_rel (φ := φ) (τ := toT τ) (a := a) (ops := ops) (o := ops[kk]) (fun j w d _ _ => hT.toT d) false (by rw [← hcg, wantedL_eq]; exact hw)
  simp only [wpOps, hget, hwr]
  rw [if_neg (by simp)]
  simp only at hcd
  rw [hcd] at hQ
  exact hQ _ _ ⟨hbg, ⟨φ, σ, hr, hp, hT.put (undef_rel φ) (fun d e => Nat.lt_of_lt_of_le (hdst d e) hsz)⟩, by rw [put_size]; exact hsz, hk⟩ (put_defers' _ _ _)

/-- What an operation calls. -/
def calleeOf (ρ : Operand → Value) (H : Hp) : AOp → Option (FuncId × List Value)
  | .call f args => match ρ f with
    | .func (.func g) first captured => some (g, first.toList ++ (args.map ρ ++ captured.toList))
    | _ => none
  | .invoke tab x args => match ρ x with
    | .iface t v => (match findTab t tab with
      | some (g, .direct) => some (g, v :: args.map ρ)
      | some (g, .deref sz) => (match v with
        | .pointer (some a) => (match readH H sz a with | some u => some (g, u :: args.map ρ) | none => none)
        | .func (.methodOf _ _) xs _ => (match partA sz xs.toList 0 with | some u => some (g, u :: args.map ρ) | none => none)
        | _ => none)
      | none => none)
    | _ => none
  | _ => none

theorem callee_op2 {ρ : Operand → Value} {H H' : Hp} {op : AOp} {f : FuncId} {args : List Value} (hc : calleeOf ρ H op = some (f, args)) {σ : AHeap} (hr : Rp σ H) {v : Value} (hs : SpecH P f args H v H') :
    ∃ cf, SndF P cf ∧ ∃ σ', op2 cf ρ σ op = some (v, σ') ∧ Rp σ' H' := by
  obtain ⟨σ', hr', hsp⟩ := hs σ hr
  refine ⟨_, one_sound hsp, σ', ?_, hr'⟩
  unfold calleeOf at hc
  split at hc
  · split at hc
    · rename_i g first captured hf
      cases hc
      simp only [op2, hf]
      exact one_self _ _ _ _ _
    · cases hc
  · rename_i tab x as
    split at hc
    · rename_i t u hx
      split at hc
      · rename_i g hft
        cases hc
        simp only [op2, hx, hft, recvOf]
        exact one_self _ _ _ _ _
      · rename_i g sz hft
        split at hc
        · rename_i a
          split at hc
          · rename_i u hu
            cases hc
            simp only [op2, hx, hft, recvOf, readH_eq hr, hu]
            exact one_self _ _ _ _ _
          · cases hc
        · split at hc
          · rename_i u hu
            cases hc
            simp only [op2, hx, hft, recvOf, hu]
            exact one_self _ _ _ _ _
          · cases hc
        · cases hc
      · cases hc
    · cases hc
  · cases hc

theorem wo_call {nt k : Nat} {dst : Option Tmp} {op : AOp} {g : Option (Option Tmp × Bool)} {chk : List Nat} {rest : List AOper} {τ : Fr} {H H' : Hp} {f : FuncId} {args : List Value} {v : Value} {K : Fr → Hp → Prop}
    (hw : wantedL τ g = some true) (hc : calleeOf (opdL τ) H op = some (f, args)) (hs : SpecH P f args H v H') (h : WpO P nt k rest (putL τ dst v) H' K) : WpO P nt k (⟨dst, op, g, chk⟩ :: rest) τ H K :=
  wo_step h (wo_does (c := ⟨dst, op, g, chk⟩) hw sndF_none (fun b σ hr => callee_op2 hc hr hs))

/-! ### Code -/

/-- A piece of code behind frames that do nothing. -/
theorem wpC_of {nt k : Nat} {ac : ACode} {τ : Fr} {H : Hp} {K : Out} (h : ∀ c, (∀ d, c ≠ .scope d) → compC P nt c = some ac → ∀ (b : Beg) (a : Act) (w : World), At P nt k b τ H a w → ∀ (Q : Exit → Act → World → Prop),
    (∀ e τ' H' a' w', K e τ' H' → At P nt k b τ' H' a' w' → a'.defers = a.defers → Q e.to a' w') → c.wp P Q a w) : WpC P nt k ac τ H K := by
  intro (c : Code)
  generalize hsize : SizeOf.sizeOf c = N
  induction N using Nat.strongRecOn generalizing c with
  | ind N IH =>
  subst hsize
  intro hc b a w ha Q hQ
  by_cases hs : ∃ d, c = .scope d
  · obtain ⟨d, rfl⟩ := hs
    simp only [compC] at hc
    refine wp_scope_straight (IH (SizeOf.sizeOf d) (by simp; try omega) d rfl hc b a w ha _ ?_)
    intro e τ' H' a' w' hK ha' hd
    have := hQ e τ' H' a' w' hK ha' hd
    cases e <;> exact this
  · exact h c (fun d e => hs ⟨d, e⟩) hc b a w ha Q hQ

def Shape (P : Program) (nt : Nat) (c : Code) : ACode → Prop
  | .skip => c = .skip ∨ ∃ l, c = .label l
  | .region cs => ∃ id ops, c = .region id ops false ∧ compOpers P ops.toList nt ops.toList = some cs
  | .dregion _ => ∃ id ops, c = .region id ops true
  | .seq x y => ∃ cx cy, c = .seq cx cy ∧ compC P nt cx = some x ∧ compC P nt cy = some y
  | .strRange .. => True
  | .fail => True
  | .cond o x y => ∃ cx cy, c = .cond o cx cy ∧ compC P nt cx = some x ∧ compC P nt cy = some y ∧ okOpd o = true
  | .block i x => ∃ cx, c = .block i cx ∧ compC P nt cx = some x
  | .loop x => ∃ cx, c = .loop cx ∧ compC P nt cx = some x
  | .exit i => c = .exit i
  | .ret => c = .ret

theorem compC_shape {nt : Nat} {c : Code} {ac : ACode} (hns : ∀ d, c ≠ .scope d) (hc : compC P nt c = some ac) : Shape P nt c ac := by
  cases c with
  | skip => simp only [compC, Option.some.injEq] at hc; subst hc; exact .inl rfl
  | label l => simp only [compC, Option.some.injEq] at hc; subst hc; exact .inr ⟨l, rfl⟩
  | exit j => simp only [compC, Option.some.injEq] at hc; subst hc; rfl
  | ret => simp only [compC, Option.some.injEq] at hc; subst hc; rfl
  | scope d => exact absurd rfl (hns d)
  | region id ops d =>
    cases d with
    | true => rcases dregion_form hc with ⟨cs, rfl⟩ | rfl; exact ⟨id, ops, rfl⟩; trivial
    | false =>
      simp only [compC] at hc
      split at hc
      · rename_i cs h1
        cases hc
        exact ⟨id, ops, rfl, h1⟩
      · cases hc; trivial
  | seq x y =>
    rcases compC_seq hc with ⟨ax, ay, hx, hy, rfl⟩ | ⟨_, _, _, _, _, _, _, _, _, _, _, _, _, _, _, _, _, rfl⟩
    · exact ⟨x, y, rfl, hx, hy⟩
    · trivial
  | cond o x y =>
    simp only [compC] at hc
    split at hc
    · rename_i ax ay hx hy
      split at hc
      · rename_i hok
        cases hc
        exact ⟨x, y, rfl, hx, hy, hok⟩
      · cases hc
    · cases hc
  | block i x =>
    simp only [compC, Option.map_eq_some_iff] at hc
    obtain ⟨ax, hx, rfl⟩ := hc
    exact ⟨x, rfl, hx⟩
  | loop x =>
    simp only [compC, Option.map_eq_some_iff] at hc
    obtain ⟨ax, hx, rfl⟩ := hc
    exact ⟨x, rfl, hx⟩
  | _ => simp only [compC, Option.some.injEq] at hc; subst hc; trivial

theorem wc_skip {nt k : Nat} {τ : Fr} {H : Hp} {K : Out} (h : K .normal τ H) : WpC P nt k .skip τ H K := by
  refine wpC_of fun c hns hc b a w ha Q hQ => ?_
  have := hQ .normal τ H a w h ha rfl
  rcases compC_shape hns hc with rfl | ⟨l, rfl⟩
  · exact wp_skip this
  · exact wp_label this

theorem wc_exit {nt k i : Nat} {τ : Fr} {H : Hp} {K : Out} (h : K (.exit i) τ H) : WpC P nt k (.exit i) τ H K := by
  refine wpC_of fun c hns hc b a w ha Q hQ => ?_
  have := hQ (.exit i) τ H a w h ha rfl
  obtain rfl := compC_shape hns hc
  exact wp_exit this

theorem wc_ret {nt k : Nat} {τ : Fr} {H : Hp} {K : Out} (h : K .ret τ H) : WpC P nt k .ret τ H K := by
  refine wpC_of fun c hns hc b a w ha Q hQ => ?_
  have := hQ .ret τ H a w h ha rfl
  obtain rfl := compC_shape hns hc
  exact wp_ret this

theorem wc_region {nt k : Nat} {cs : List AOper} {τ : Fr} {H : Hp} {K : Out} (h : WpO P nt k cs τ H (K .normal)) : WpC P nt k (.region cs) τ H K := by
  refine wpC_of fun c hns hc b a w ha Q hQ => ?_
  obtain ⟨id, ops, rfl, hcs⟩ := compC_shape hns hc
  refine wp_region ?_
  rw [List.range_eq_range']
  have := h ops 0 ops.size (by omega) (by rw [List.drop_zero, List.take_of_length_le (by simp)]; exact hcs) b a w ha Q [] (fun τ' H' a' w' hK ha' hd => hQ .normal τ' H' a' w' hK ha' hd)
  simpa using this

theorem wc_seq {nt k : Nat} {x y : ACode} {τ : Fr} {H : Hp} {K : Out} (h : WpC P nt k x τ H (fun e τ' H' => match e with | .normal => WpC P nt k y τ' H' K | e => K e τ' H')) : WpC P nt k (.seq x y) τ H K := by
  refine wpC_of fun c hns hc b a w ha Q hQ => ?_
  obtain ⟨cx, cy, rfl, hx, hy⟩ := compC_shape hns hc
  refine wp_seq (h cx hx b a w ha _ ?_)
  intro e τ' H' a' w' hK ha' hd
  cases e with
  | normal => exact hK cy hy b a' w' ha' Q (fun e2 τ2 H2 a2 w2 hK2 ha2 hd2 => hQ e2 τ2 H2 a2 w2 hK2 ha2 (hd2.trans hd))
  | exit i => exact hQ _ _ _ _ _ hK ha' hd
  | ret => exact hQ _ _ _ _ _ hK ha' hd

theorem wc_cond {nt k : Nat} {o : Operand} {x y : ACode} {τ : Fr} {H : Hp} {K : Out} {t : Bool} (ho : opdL τ o = .bool t) (h : WpC P nt k (bif t then x else y) τ H K) : WpC P nt k (.cond o x y) τ H K := by
  refine wpC_of fun c hns hc b a w ha Q hQ => ?_
  obtain ⟨cx, cy, rfl, hx, hy, hok⟩ := compC_shape hns hc
  obtain ⟨hbg, ⟨φ, σ, hr, hp, hT⟩, hsz, hk⟩ := ha
  have hrel := opdL_rel hT o hok
  rw [ho] at hrel
  generalize hq : a.eval o = q at hrel
  cases hrel
  cases t with
  | true => exact wp_cond_true hq (h cx hx b a w ⟨hbg, ⟨φ, σ, hr, hp, hT⟩, hsz, hk⟩ Q hQ)
  | false => exact wp_cond_false hq (h cy hy b a w ⟨hbg, ⟨φ, σ, hr, hp, hT⟩, hsz, hk⟩ Q hQ)

theorem wc_block {nt k i : Nat} {x : ACode} {τ : Fr} {H : Hp} {K : Out} (h : WpC P nt k x τ H (fun e τ' H' => match e with | .exit j => if j = i then K .normal τ' H' else K (.exit j) τ' H' | e => K e τ' H')) : WpC P nt k (.block i x) τ H K := by
  refine wpC_of fun c hns hc b a w ha Q hQ => ?_
  obtain ⟨cx, rfl, hx⟩ := compC_shape hns hc
  refine wp_block (h cx hx b a w ha _ ?_)
  intro e τ' H' a' w' hK ha' hd
  cases e with
  | normal => exact hQ _ _ _ _ _ hK ha' hd
  | ret => exact hQ _ _ _ _ _ hK ha' hd
  | exit j =>
    by_cases hj : j = i
    · subst hj
      have := hQ .normal _ _ _ _ (by simpa using hK) ha' hd
      simpa [AExit.to, Exit.inBlock] using this
    · have := hQ (.exit j) _ _ _ _ (by simpa [hj] using hK) ha' hd
      simpa [AExit.to, Exit.inBlock, hj] using this

/-- A loop: a relation that each round keeps, with a number that falls. -/
theorem wc_loop {nt k : Nat} {x : ACode} {τ : Fr} {H : Hp} {K : Out} (I : Nat → Fr → Hp → Prop) (n0 : Nat) (h0 : I n0 τ H)
    (h : ∀ n τ H, I n τ H → WpC P nt k x τ H (fun e τ' H' => match e with | .normal => ∃ m, m < n ∧ I m τ' H' | e => K e τ' H')) : WpC P nt k (.loop x) τ H K := by
  refine wpC_of fun c hns hc b a w ha Q hQ => ?_
  obtain ⟨cx, rfl, hx⟩ := compC_shape hns hc
  have key : ∀ N n, n < N → ∀ (τ : Fr) (H : Hp), I n τ H → ∀ (a : Act) (w : World), At P nt k b τ H a w → (∀ e τ' H' a' w', K e τ' H' → At P nt k b τ' H' a' w' → a'.defers = a.defers → Q e.to a' w') → Code.rounds P cx Q N a w := by
    intro N
    induction N with
    | zero => intro n hn; omega
    | succ N ih =>
      intro n hn τ H hI a w ha hQ
      rw [rounds_succ]
      refine h n τ H hI cx hx b a w ha _ ?_
      intro e τ' H' a' w' hK ha' hd
      cases e with
      | normal =>
        obtain ⟨m, hm, hI'⟩ := hK
        exact ih m (by omega) τ' H' hI' a' w' ha' (fun e2 τ2 H2 a2 w2 hK2 ha2 hd2 => hQ e2 τ2 H2 a2 w2 hK2 ha2 (hd2.trans hd))
      | exit i => exact hQ _ _ _ _ _ hK ha' hd
      | ret => exact hQ _ _ _ _ _ hK ha' hd
  exact wp_loop_rounds (n0 + 1) (key (n0 + 1) n0 (by omega) τ H h0 a w ha hQ)

end Go.Bx

namespace Go.Bx
variable {P : Program}

inductive Item where
  | code (c : ACode)
  | ops (l : List AOper)
  | blk (id : Nat)
  | stop (J : Fr → Hp → Prop)

def Fin (P : Program) (k : Nat) (J : Fr → Hp → Prop) (τ : Fr) (H : Hp) : Prop := ∃ τ2 H2, Wk P k τ H τ2 H2 ∧ J τ2 H2

def Co (P : Program) (nt k : Nat) (Q : Out) : List Item → AExit → Fr → Hp → Prop
  | [], e, τ, H => Fin P k (Q e) τ H
  | .code c :: l, .normal, τ, H => WpC P nt k c τ H (Co P nt k Q l)
  | .ops o :: l, .normal, τ, H => WpO P nt k o τ H (Co P nt k Q l .normal)
  | .blk i :: l, .exit j, τ, H => if j = i then Co P nt k Q l .normal τ H else Co P nt k Q l (.exit j) τ H
  | .stop J :: _, .normal, τ, H => Fin P k J τ H
  | _ :: l, e, τ, H => Co P nt k Q l e τ H

variable {nt k : Nat} {Q : Out} {l : List Item} {τ τ2 : Fr} {H H2 : Hp}

theorem Fin.wk {J : Fr → Hp → Prop} (hw : Wk P k τ H τ2 H2) (h : Fin P k J τ2 H2) : Fin P k J τ H := by
  obtain ⟨τ3, H3, h1, h2⟩ := h
  exact ⟨τ3, H3, hw.trans h1, h2⟩
theorem Fin.now {J : Fr → Hp → Prop} (h : J τ H) : Fin P k J τ H := ⟨τ, H, .refl, h⟩

theorem co_wk (hw : Wk P k τ H τ2 H2) : ∀ {l : List Item} {e : AExit}, Co P nt k Q l e τ2 H2 → Co P nt k Q l e τ H
  | [], e, h => by simp only [Co] at h ⊢; exact h.wk hw
  | .code c :: l, e, h => by
    cases e with
    | normal => simp only [Co] at h ⊢; exact h.wk hw
    | exit j => simp only [Co] at h ⊢; exact co_wk hw h
    | ret => simp only [Co] at h ⊢; exact co_wk hw h
  | .ops o :: l, e, h => by
    cases e with
    | normal => simp only [Co] at h ⊢; exact h.wk hw
    | exit j => simp only [Co] at h ⊢; exact co_wk hw h
    | ret => simp only [Co] at h ⊢; exact co_wk hw h
  | .blk i :: l, e, h => by
    cases e with
    | normal => simp only [Co] at h ⊢; exact co_wk hw h
    | exit j =>
      simp only [Co] at h ⊢
      split at h
      · rename_i hj; rw [if_pos hj]; exact co_wk hw h
      · rename_i hj; rw [if_neg hj]; exact co_wk hw h
    | ret => simp only [Co] at h ⊢; exact co_wk hw h
  | .stop J :: l, e, h => by
    cases e with
    | normal => simp only [Co] at h ⊢; exact h.wk hw
    | exit j => simp only [Co] at h ⊢; exact co_wk hw h
    | ret => simp only [Co] at h ⊢; exact co_wk hw h

abbrev Go (P : Program) (nt k : Nat) (Q : Out) (l : List Item) (τ : Fr) (H : Hp) : Prop := Co P nt k Q l .normal τ H

theorem go_wk (hw : Wk P k τ H τ2 H2) (h : Go P nt k Q l τ2 H2) : Go P nt k Q l τ H := co_wk hw h
theorem go_nil (h : Fin P k (Q .normal) τ H) : Go P nt k Q [] τ H := h
theorem go_stop {J : Fr → Hp → Prop} (h : Fin P k J τ H) : Go P nt k Q (.stop J :: l) τ H := h
theorem go_seq {x y : ACode} (h : Go P nt k Q (.code x :: .code y :: l) τ H) : Go P nt k Q (.code (.seq x y) :: l) τ H := by
  refine wc_seq (WpC.mono h ?_)
  intro e τ H hc
  cases e <;> exact hc
theorem go_region {cs : List AOper} (h : Go P nt k Q (.ops cs :: l) τ H) : Go P nt k Q (.code (.region cs) :: l) τ H := wc_region h
theorem go_skip (h : Go P nt k Q l τ H) : Go P nt k Q (.code .skip :: l) τ H := wc_skip h
theorem go_cond {o : Operand} {x y : ACode} {t : Bool} (ho : opdL τ o = .bool t) (h : Go P nt k Q (.code (bif t then x else y) :: l) τ H) : Go P nt k Q (.code (.cond o x y) :: l) τ H := wc_cond ho h
theorem go_true {o : Operand} {x y : ACode} (ho : opdL τ o = .bool true) (h : Go P nt k Q (.code x :: l) τ H) : Go P nt k Q (.code (.cond o x y) :: l) τ H := wc_cond ho h
theorem go_false {o : Operand} {x y : ACode} (ho : opdL τ o = .bool false) (h : Go P nt k Q (.code y :: l) τ H) : Go P nt k Q (.code (.cond o x y) :: l) τ H := wc_cond ho h
theorem go_block {i : Nat} {x : ACode} (h : Go P nt k Q (.code x :: .blk i :: l) τ H) : Go P nt k Q (.code (.block i x) :: l) τ H := by
  refine wc_block (WpC.mono h ?_)
  intro e τ H hc
  cases e <;> exact hc
theorem go_blk {i : Nat} (h : Go P nt k Q l τ H) : Go P nt k Q (.blk i :: l) τ H := h

def unw (i : Nat) : List Item → Option (List Item)
  | [] => none
  | .blk j :: l => bif Nat.beq i j then some l else unw i l
  | _ :: l => unw i l
theorem co_exit {i : Nat} : ∀ {l l' : List Item}, unw i l = some l' → Co P nt k Q l' .normal τ H → Co P nt k Q l (.exit i) τ H
  | [], _, h, _ => by simp [unw] at h
  | .blk j :: l, l', h, hc => by
    simp only [unw] at h
    simp only [Co]
    by_cases hj : i = j
    · subst hj
      simp only [Nat.beq_refl, cond_true, Option.some.injEq] at h
      subst h
      rw [if_pos rfl]; exact hc
    · rw [beqF hj] at h
      rw [if_neg hj]
      exact co_exit h hc
  | .code c :: l, l', h, hc => by simp only [unw] at h; simp only [Co]; exact co_exit h hc
  | .ops c :: l, l', h, hc => by simp only [unw] at h; simp only [Co]; exact co_exit h hc
  | .stop c :: l, l', h, hc => by simp only [unw] at h; simp only [Co]; exact co_exit h hc
theorem go_exit {i : Nat} {l' : List Item} (hu : unw i l = some l') (h : Go P nt k Q l' τ H) : Go P nt k Q (.code (.exit i) :: l) τ H := wc_exit (co_exit hu h)
theorem co_ret (h : Fin P k (Q .ret) τ H) : ∀ (l : List Item), Co P nt k Q l .ret τ H
  | [] => h
  | .code _ :: l => by simp only [Co]; exact co_ret h l
  | .ops _ :: l => by simp only [Co]; exact co_ret h l
  | .blk _ :: l => by simp only [Co]; exact co_ret h l
  | .stop _ :: l => by simp only [Co]; exact co_ret h l
theorem go_ret (h : Fin P k (Q .ret) τ H) : Go P nt k Q (.code .ret :: l) τ H := wc_ret (co_ret h l)

theorem go_done (h : Go P nt k Q l τ H) : Go P nt k Q (.ops [] :: l) τ H := wo_nil h
theorem go_op {dst : Option Tmp} {op : AOp} {g : Option (Option Tmp × Bool)} {chk : List Nat} {rest : List AOper} {v : Value}
    (hw : wantedL τ g = some true) (ho : opS (opdL τ) H op = some (v, H2)) (h : Go P nt k Q (.ops rest :: l) (putL τ dst v) H2) : Go P nt k Q (.ops (⟨dst, op, g, chk⟩ :: rest) :: l) τ H := wo_op hw ho h
theorem go_miss {dst : Option Tmp} {op : AOp} {g : Option (Option Tmp × Bool)} {chk : List Nat} {rest : List AOper}
    (hw : wantedL τ g = some false) (h : Go P nt k Q (.ops rest :: l) (putL τ dst undef) H) : Go P nt k Q (.ops (⟨dst, op, g, chk⟩ :: rest) :: l) τ H := wo_skip hw h
theorem go_call {dst : Option Tmp} {op : AOp} {g : Option (Option Tmp × Bool)} {chk : List Nat} {rest : List AOper} {f : FuncId} {args : List Value} {v : Value}
    (hw : wantedL τ g = some true) (hc : calleeOf (opdL τ) H op = some (f, args)) (hs : SpecH P f args H v H2) (h : Go P nt k Q (.ops rest :: l) (putL τ dst v) H2) : Go P nt k Q (.ops (⟨dst, op, g, chk⟩ :: rest) :: l) τ H := wo_call hw hc hs h

theorem go_cut {i : Item} (J : Fr → Hp → Prop) (h1 : Go P nt k Q (i :: .stop J :: l) τ H) (h2 : ∀ τ H, J τ H → Go P nt k Q l τ H) : Go P nt k Q (i :: l) τ H := by
  have key : ∀ e τ H, Co P nt k Q (.stop J :: l) e τ H → Co P nt k Q l e τ H := by
    intro e τ H hc
    cases e with
    | normal =>
      simp only [Co] at hc
      obtain ⟨τ2, H2, hw, hj⟩ := hc
      exact co_wk hw (h2 _ _ hj)
    | exit j => exact hc
    | ret => exact hc
  cases i with
  | code c => exact WpC.mono h1 key
  | ops o => exact WpO.mono h1 (key .normal)
  | blk j => exact key _ _ _ h1
  | stop J' => exact h1

theorem go_loop {X : Type} (I : X → Fr → Hp → Prop) (μ : X → Nat) (x0 : X) {c : ACode} (h0 : Fin P k (I x0) τ H)
    (h : ∀ x τ H, I x τ H → Go P nt k Q (.code c :: .stop (fun τ' H' => ∃ y, μ y < μ x ∧ I y τ' H') :: l) τ H) : Go P nt k Q (.code (.loop c) :: l) τ H := by
  refine wc_loop (fun n τ H => ∃ x, μ x = n ∧ Fin P k (I x) τ H) (μ x0) ⟨x0, rfl, h0⟩ ?_
  rintro n τ H ⟨x, rfl, τ2, H2, hw, hI⟩
  refine WpC.wk hw (WpC.mono (h x τ2 H2 hI) ?_)
  intro e τ H hc
  cases e with
  | normal =>
    simp only [Co] at hc
    obtain ⟨τ3, H3, hw3, y, hy, hI3⟩ := hc
    exact ⟨μ y, hy, y, rfl, τ3, H3, hw3, hI3⟩
  | exit j => exact hc
  | ret => exact hc

/-! ### Functions -/

def argsF (i : Nat) : List Value → Fr
  | [] => []
  | v :: l => (i, v) :: argsF (i + 1) l
theorem argsF_lk : ∀ (l : List Value) (i t : Nat), lk (argsF i l) t = if i ≤ t ∧ t < i + l.length then l.getD (t - i) undef else top
  | [], i, t => by simp [argsF, lk]; omega
  | v :: l, i, t => by
    simp only [argsF, lk]
    by_cases h : t = i
    · subst h; simp
    · rw [beqF h, cond_false, argsF_lk l (i + 1) t]
      by_cases h2 : i + 1 ≤ t ∧ t < i + 1 + l.length
      · rw [if_pos h2, if_pos (by simp; omega)]
        obtain ⟨m, hm⟩ : ∃ m, t - i = m + 1 := ⟨t - i - 1, by omega⟩
        rw [hm, show t - (i + 1) = m by omega]
        simp
      · rw [if_neg h2, if_neg (by simp; omega)]

def resL (τ : Fr) (H : Hp) : Sum Tmp (Tmp × Option Nat) → Option Value
  | .inl t => some (lk τ t)
  | .inr (t, sz) => match lk τ t with
    | .pointer (some a) => readH H sz a
    | _ => none
def ressL (τ : Fr) (H : Hp) : List (Sum Tmp (Tmp × Option Nat)) → Option (List Value)
  | [] => some []
  | r :: rest => match resL τ H r with
    | some v => (match ressL τ H rest with | some vs => some (v :: vs) | none => none)
    | none => none
theorem ressL_eq {σ : AHeap} (hr : Rp σ H) (τ : Fr) : ∀ (l : List (Sum Tmp (Tmp × Option Nat))), resAll (toT τ) σ l = ressL τ H l
  | [] => rfl
  | r :: rest => by
    have h1 : resOf (toT τ) σ r = resL τ H r := by
      cases r with
      | inl t => simp only [resOf, resL, toT_at τ t]
      | inr p =>
        obtain ⟨t, sz⟩ := p
        simp only [resOf, resL, toT_at τ t, readH_eq hr]
        rfl
    simp only [resAll, ressL, h1, ressL_eq hr τ rest]
    cases resL τ H r <;> rfl

/-- What a function leaves behind. -/
def Ret (F : AFunc) (v : Value) (H' : Hp) : Out := fun e τ H => match e with
  | .exit _ => False
  | _ => (∃ vs, ressL τ H F.res = some vs ∧ packRes vs = v) ∧ H = H'

theorem R.congr {φ : Phi} {σ σ1 : AHeap} {w : World} (h : R P φ σ w) (hs : σ1.size = σ.size) (hg : ∀ i, σ1.get i = σ.get i) : R P φ σ1 w where
  bnd i hi := h.bnd i (by omega)
  dead i p hi := by rw [hg]; exact h.dead i p hi
  live i b o k hi := by rw [hg]; exact h.live i b o k hi
  excl i j b o k b' o' k' obj h1 h2 h3 := by rw [hg] at h3; exact h.excl i j b o k b' o' k' obj h1 h2 h3
  froz := h.froz
  nofz i b o k obj h1 h2 := by rw [hg] at h2; exact h.nofz i b o k obj h1 h2
theorem Post.congr {φ φ' : Phi} {σ σ' σ1 : AHeap} {w w' : World} (h : Post P φ σ w φ' σ' w') (hs : σ1.size = σ'.size) (hg : ∀ i, σ1.get i = σ'.get i) : Post P φ σ w φ' σ1 w' where
  size := by rw [hs]; exact h.size
  le := h.le
  abs i hi ha := by rw [hg]; exact h.abs i hi ha
  rel := h.rel.congr hs hg
  own b hb := h.own b (by obtain ⟨i, o, k, obj, h1, h2, h3⟩ := hb; rw [hg] at h2; exact ⟨i, o, k, obj, h1, h2, h3⟩)
  new := h.new
  keep := h.keep
  grow := h.grow
  env := h.env
  fz := h.fz

/-- A heap that stands for a list. -/
def hp (H : Hp) : AHeap := mkHeap (hget H) H.length
theorem hp_rp (H : Hp) : Rp (hp H) H := ⟨mkHeap_size _ _, fun i => by
  unfold hp
  rw [mkHeap_get]
  split
  · rfl
  · exact (hget_ge (by omega)).symm⟩
theorem Rp.post {φ φ' : Phi} {σ σ' : AHeap} {w w' : World} (hr : Rp σ' H) (h : Post P φ σ w φ' σ' w') : Post P φ σ w φ' (hp H) w' :=
  h.congr (by rw [hr.size, (hp_rp H).size]) (fun i => by rw [hr.get, (hp_rp H).get])

theorem spec_of_go {f : FuncId} {F : AFunc} (hF : compF P f = some F) {args : List Value} {v : Value} (h : ∀ nt, Go P nt H.length (Ret F v H2) [.code F.code] (argsF 0 args) H) (hl : H.length ≤ H2.length) : SpecH P f args H v H2 := by
  obtain ⟨fn, c, hf, hb, hn, hc, hr⟩ := compF_spec hF
  intro σ hσ
  refine ⟨hp H2, hp_rp H2, ⟨fn, hf⟩, by rw [hσ.size, (hp_rp H2).size]; exact hl, ?_⟩
  intro φ w args' hR hargs
  refine .inl ⟨⟨fn, c, hf, hb, hn⟩, ?_⟩
  refine calls_of_wp hf hb ?_
  have ht := args_rel hargs fn.ntmps
  have hat : At P fn.ntmps H.length ⟨φ, σ, w⟩ (argsF 0 args) H { tmps := args'.toArray ++ Array.replicate (fn.ntmps - args'.toArray.size) undef, defers := [] } w := by
    refine ⟨hR, ⟨φ, σ, hσ, .refl hR, fun t => ?_⟩, by simp; omega, hσ.size⟩
    have := ht t
    rw [ofArgs_at] at this
    rw [argsF_lk]
    split
    · rename_i hc; rw [if_pos hc] at this; exact this
    · exact .top _
  refine h fn.ntmps c hc _ _ _ hat _ ?_
  intro e τ' H' a' w' hK ha' hd
  have hfin : ∀ e, (e = .normal ∨ e = .ret) → Fin P H.length (Ret F v H2 e) τ' H' → bodyPost P fn (fun e w' => ∃ φ' v', e = .returned v' ∧ VRel φ' v v' ∧ Post P φ σ w φ' (hp H2) w') e.to a' w' := by
    rintro e he ⟨τ2, H3, hw, hret⟩
    obtain ⟨φ1, σ1, hr1, hp1, ht1⟩ := hw _ _ _ ha'.k ha'.beg ha'.out
    have hret' : (∃ vs, ressL τ2 H3 F.res = some vs ∧ packRes vs = v) ∧ H3 = H2 := by rcases he with rfl | rfl <;> exact hret
    obtain ⟨⟨vs, hvs, rfl⟩, rfl⟩ := hret'
    obtain ⟨vs', hrel, hrun⟩ := resAll_sound hp1.rel ht1.toT fn.results.toList F.res vs hr (by rw [ressL_eq hr1]; exact hvs)
    have hrr := run_results (P := P) fn a'.tmps vs' w' hrun
    have : bodyPost P fn (fun e w' => ∃ φ' v', e = .returned v' ∧ VRel φ' (packRes vs) v' ∧ Post P φ σ w φ' (hp H3) w') .normal a' w' := ⟨hd, _, hrr, φ1, _, rfl, pack_rel hrel, hr1.post hp1⟩
    rcases he with rfl | rfl <;> exact this
  cases e with
  | normal => exact hfin .normal (.inl rfl) hK
  | ret => exact hfin .ret (.inr rfl) hK
  | exit i =>
    simp only [Co] at hK
    obtain ⟨_, _, _, h⟩ := hK
    exact h.elim

end Go.Bx

namespace Go.Bx
variable {P : Program} {k : Nat} {τ τ2 : Fr} {H H2 : Hp}

/-! ### Weaker values -/

/-- What is related to the first is related to the second. -/
def VLe (v v2 : Value) : Prop := ∀ (φ : Phi) v', VRel φ v v' → VRel φ v2 v'
theorem VLe.refl (v : Value) : VLe v v := fun _ _ h => h
theorem VLe.top (v : Value) : VLe v top := fun _ _ _ => .top _
theorem VLe.nil : VLe (.slice none 0 0) (bvS 0 []) := fun φ v' h => by
  cases h
  exact .bvs .bvn

theorem wk_vals (h : ∀ t, VLe (lk τ t) (lk τ2 t)) : Wk P k τ H τ2 H := by
  rintro b w tmps hk hb ⟨φ, σ, hr, hp, hl⟩
  exact ⟨φ, σ, hr, hp, fun t => h t φ _ (hl t)⟩

theorem wk_val {t : Nat} {v2 : Value} (h : VLe (lk τ t) v2) : Wk P k τ H ((t, v2) :: τ) H := wk_vals fun s => by
  simp only [lk]
  by_cases hs : s = t
  · subst hs; simpa using h
  · rw [beqF hs]; exact VLe.refl _

/-- The second list says of each temporary what the first one says, or nothing. -/
def SubF : Fr → Fr → Prop
  | [], _ => True
  | (t, v) :: r, τ => lk τ t = v ∧ SubF r τ
theorem SubF.lk : ∀ {τ2 τ : Fr}, SubF τ2 τ → ∀ t, lk τ2 t = lk τ t ∨ lk τ2 t = top
  | [], _, _, _ => .inr rfl
  | (s, v) :: r, τ, h, t => by
    simp only [Bx.lk]
    by_cases hs : t = s
    · subst hs; simp [h.1]
    · rw [beqF hs]; exact SubF.lk h.2 t
theorem wk_forget (h : SubF τ2 τ) : Wk P k τ H τ2 H := wk_vals fun t => by
  rcases h.lk t with h | h
  · rw [h]; exact VLe.refl _
  · rw [h]; exact VLe.top _

/-! ### Values without addresses -/

/-- The relation of a value speaks of memory only that is never written again. -/
def PV (v : Value) : Prop := ∀ (φ : Phi) v', VRel φ v v' → FRel φ.fz v v'
def PVs (l : List Value) : Prop := ∀ v ∈ l, PV v

theorem pv_bool (b : Bool) : PV (.bool b) := fun φ v' h => by cases h; constructor
theorem pv_int (k : IntKind) (n : Int) : PV (.int k n) := fun φ v' h => by cases h; constructor
theorem pv_string (s : ByteArray) : PV (.string s) := fun φ v' h => by cases h; constructor
theorem pv_ptrN : PV (.pointer none) := fun φ v' h => by cases h; constructor
theorem pv_slcN : PV (.slice none 0 0) := fun φ v' h => by cases h; constructor
theorem pv_nilFunc : PV .nilFunc := fun φ v' h => by cases h; constructor
theorem pv_nilIface : PV .nilIface := fun φ v' h => by cases h; constructor
theorem pv_iface {t : TypeId} {v : Value} (hv : PV v) : PV (.iface t v) := fun φ v' h => by
  cases h with
  | iface _ h => exact .iface _ (hv _ _ h)
theorem pvs_rel {l : List Value} (hl : PVs l) {φ : Phi} : ∀ {l' : List Value}, VsRel φ l l' → FsRel φ.fz l l' := by
  induction l with
  | nil => intro l' h; cases h; exact .nil
  | cons v l ih =>
    intro l' h
    cases h with
    | cons h1 h2 => exact .cons (hl v (by simp) _ _ h1) (ih (fun u hu => hl u (by simp [hu])) h2)
theorem pv_agg {xs : Array Value} (h : PVs xs.toList) : PV (.agg xs) := fun φ v' hr => by
  cases hr with
  | agg h1 h2 => exact .agg h1 (pvs_rel h h2)
theorem pv_tuple {xs : Array Value} (h : PVs xs.toList) : PV (.tuple xs) := fun φ v' hr => by
  cases hr with
  | tuple h2 => exact .tuple (pvs_rel h h2)
theorem pv_func {f : FuncId} {xs ys : Array Value} (hx : PVs xs.toList) (hy : PVs ys.toList) : PV (.func (.func f) xs ys) := fun φ v' hr => by
  cases hr with
  | func _ h1 h2 => exact .func _ (pvs_rel hx h1) (pvs_rel hy h2)
theorem pv_bvS (n : Nat) (xs : Array Value) (ys : Array Value) : PV (.func (.yield n) xs ys) := fun φ v' hr => by
  cases hr with
  | bvs h => exact h
theorem pv_bvP (t : TypeId) (nm : String) (xs ys : Array Value) : PV (.func (.methodOf t nm) xs ys) := fun φ v' hr => by
  cases hr with
  | bvp h => exact h
theorem pvs_nil : PVs [] := fun v h => by cases h
theorem pvs_cons {v : Value} {l : List Value} (h : PV v) (hl : PVs l) : PVs (v :: l) := fun u hu => by
  rcases List.mem_cons.1 hu with rfl | hu
  · exact h
  · exact hl u hu
theorem pvs_append {l m : List Value} (h : PVs l) (hm : PVs m) : PVs (l ++ m) := fun u hu => by
  rcases List.mem_append.1 hu with hu | hu
  · exact h u hu
  · exact hm u hu
theorem pvs_flatMap {α : Type} {l : List α} {f : α → List Value} (h : ∀ x ∈ l, PVs (f x)) : PVs (l.flatMap f) := fun u hu => by
  obtain ⟨x, hx, hu⟩ := List.mem_flatMap.1 hu
  exact h x hx u hu
theorem pvs_map {α : Type} {l : List α} {f : α → Value} (h : ∀ x ∈ l, PV (f x)) : PVs (l.map f) := fun u hu => by
  obtain ⟨x, hx, rfl⟩ := List.mem_map.1 hu
  exact h x hx
theorem PVs.take {l : List Value} (h : PVs l) (n : Nat) : PVs (l.take n) := fun u hu => h u (List.mem_of_mem_take hu)
theorem PVs.drop {l : List Value} (h : PVs l) (n : Nat) : PVs (l.drop n) := fun u hu => h u (List.mem_of_mem_drop hu)

/-! ### Blocks are forgotten -/

/-- The relation of a value speaks of blocks below a bound only. -/
def Bel (j : Nat) (v : Value) : Prop := ∀ (φ : Phi) v', VRel φ v v' → VRel (res φ j) v v'
theorem PV.bel {v : Value} (h : PV v) (j : Nat) : Bel j v := fun φ v' hr => (FRel.toV (φ := res φ j) (h φ v' hr))
theorem bel_top (j : Nat) : Bel j top := fun _ _ _ => .top _
theorem bel_ptr {j : Nat} {a : Addr} (h : a.block < j) : Bel j (.pointer (some a)) := fun φ v' hr => by
  cases hr with
  | ptr ha =>
    refine .ptr ?_
    unfold ARel at *
    rw [res_st, if_pos h]; exact ha
theorem bel_slc {j : Nat} {a : Addr} {n fl : Nat} (h : a.block < j) : Bel j (.slice (some a) n fl) := fun φ v' hr => by
  cases hr with
  | slc h0 hc h1 =>
    refine .slc (h0.imp id fun ha => ?_) hc (fun e => ?_)
    · unfold ARel at *
      rw [res_st, if_pos h]; exact ha
    · have := h1 e
      unfold FlagRel at *
      rw [res_st, if_pos h]; exact this
theorem bels_rel {j : Nat} {l : List Value} (hl : ∀ v ∈ l, Bel j v) {φ : Phi} : ∀ {l' : List Value}, VsRel φ l l' → VsRel (res φ j) l l' := by
  induction l with
  | nil => intro l' h; cases h; exact .nil
  | cons v l ih =>
    intro l' h
    cases h with
    | cons h1 h2 => exact .cons (hl v (by simp) _ _ h1) (ih (fun u hu => hl u (by simp [hu])) h2)
theorem bel_agg {j : Nat} {xs : Array Value} (h : ∀ v ∈ xs.toList, Bel j v) : Bel j (.agg xs) := fun φ v' hr => by
  cases hr with
  | agg h1 h2 => exact .agg h1 (bels_rel h h2)
theorem bel_tuple {j : Nat} {xs : Array Value} (h : ∀ v ∈ xs.toList, Bel j v) : Bel j (.tuple xs) := fun φ v' hr => by
  cases hr with
  | tuple h2 => exact .tuple (bels_rel h h2)
theorem bel_func {j : Nat} {f : FuncId} {xs ys : Array Value} (hx : ∀ v ∈ xs.toList, Bel j v) (hy : ∀ v ∈ ys.toList, Bel j v) : Bel j (.func (.func f) xs ys) := fun φ v' hr => by
  cases hr with
  | func _ h1 h2 => exact .func _ (bels_rel hx h1) (bels_rel hy h2)
theorem bel_iface {j : Nat} {t : TypeId} {v : Value} (hv : Bel j v) : Bel j (.iface t v) := fun φ v' h => by
  cases h with
  | iface _ h => exact .iface _ (hv _ _ h)

def BelF (j : Nat) : Fr → Prop
  | [] => True
  | (_, v) :: r => Bel j v ∧ BelF j r
theorem BelF.lk {j : Nat} : ∀ {τ : Fr}, BelF j τ → ∀ t, Bel j (lk τ t)
  | [], _, _ => bel_top j
  | (s, v) :: r, h, t => by
    simp only [Bx.lk]
    cases Nat.beq t s with
    | true => exact h.1
    | false => exact BelF.lk h.2 t
def BelH (j : Nat) : Hp → Prop
  | [] => True
  | none :: r => BelH j r
  | some o :: r => (∀ v ∈ o.cells, Bel j v) ∧ BelH j r
theorem BelH.get {j : Nat} : ∀ {H : Hp}, BelH j H → ∀ i o, hget H i = some o → ∀ v ∈ o.cells, Bel j v
  | [], _, i, o, h, _, _ => by simp [hget] at h
  | x :: r, hb, 0, o, h, v, hv => by
    cases x with
    | none => simp [hget] at h
    | some y => simp [hget] at h; subst h; exact hb.1 v hv
  | x :: r, hb, i + 1, o, h, v, hv => by
    have hr : BelH j r := by cases x with | none => exact hb | some y => exact hb.2
    exact BelH.get hr i o (by simpa [hget] using h) v hv

theorem hget_take (H : Hp) (j i : Nat) : hget (H.take j) i = if i < j then hget H i else none := by
  unfold hget
  by_cases h : i < j
  · rw [List.getElem?_take_of_lt h, if_pos h]
  · rw [if_neg h, List.getElem?_eq_none (by simp; omega)]

/-- The relation and the heap below a bound. -/
theorem R.low {φ : Phi} {σ : AHeap} {w : World} (h : R P φ σ w) (hr : Rp σ H) {j : Nat} (hb : BelH j (H.take j)) : R P (res φ j) (hp (H.take j)) w := by
  have hg := (hp_rp (H.take j)).get
  have hs := (hp_rp (H.take j)).size
  refine ⟨fun i hi => ?_, fun i p hi => ?_, fun i b o kk hi => ?_, fun i i2 b o kk b2 o2 k2 obj h1 h2 h3 h4 h5 => ?_, h.froz, fun i b o kk obj h1 h2 h3 => ?_⟩
  · rw [hs] at hi
    simp only [List.length_take] at hi
    rw [res_st]
    split
    · exact h.bnd i (by rw [hr.size]; omega)
    · rfl
  · rw [res_st] at hi
    split at hi
    · rename_i hlt
      rw [hg, hget_take, if_pos hlt, ← hr.get]
      exact h.dead i p hi
    · cases hi
  · rw [res_st] at hi
    split at hi
    · rename_i hlt
      obtain ⟨obj, c, e, fr, g1, g2, g3, g4⟩ := h.live i b o kk hi
      refine ⟨obj, c, e, fr, by rw [hg, hget_take, if_pos hlt, ← hr.get]; exact g1, g2, fun jj v hj => ?_, g4⟩
      obtain ⟨a1, v', a2, a3⟩ := g3 jj v hj
      refine ⟨a1, v', a2, BelH.get hb i obj (by rw [hget_take, if_pos hlt, ← hr.get]; exact g1) v (List.mem_of_getElem? hj) φ v' a3⟩
    · cases hi
  · rw [res_st] at h1 h2
    split at h1
    · rename_i hlt
      split at h2
      · rw [hg, hget_take, if_pos hlt, ← hr.get] at h3
        exact h.excl i i2 b o kk b2 o2 k2 obj h1 h2 h3 h4 h5
      · cases h2
    · cases h1
  · rw [res_st] at h1
    split at h1
    · rename_i hlt
      rw [hg, hget_take, if_pos hlt, ← hr.get] at h2
      exact h.nofz i b o kk obj h1 h2 h3
    · cases h1

theorem Post.low {φ φ0 : Phi} {σ σ0 : AHeap} {w w0 : World} (hR0 : R P φ0 σ0 w0) (h : Post P φ0 σ0 w0 φ σ w) (hr : Rp σ H) {j : Nat} (hk : σ0.size ≤ j) (hb : BelH j (H.take j)) : Post P φ0 σ0 w0 (res φ j) (hp (H.take j)) w := by
  have hg := (hp_rp (H.take j)).get
  have hs := (hp_rp (H.take j)).size
  have hlt0 : ∀ i, φ0 i ≠ .absent → i < j := fun i hi => Nat.lt_of_lt_of_le (hR0.id_lt hi) hk
  refine ⟨?_, ⟨fun i hi => ?_, h.le.fz⟩, fun i hi ha => ?_, h.rel.low hr hb, fun b hb' => ?_, fun i b o kk h1 h2 => ?_, h.keep, h.grow, h.env, h.fz⟩
  · rw [hs, List.length_take]
    have := h.size
    rw [hr.size] at this
    omega
  · rw [res_st, if_pos (hlt0 i hi)]
    exact h.le.st i hi
  · have := h.abs i hi ha
    rw [res_st, if_pos (by omega), hg, hget_take, if_pos (by omega), ← hr.get]
    exact this
  · obtain ⟨i, o, kk, obj, h1, h2, h3⟩ := hb'
    rw [res_st] at h1
    split at h1
    · rename_i hlt
      rw [hg, hget_take, if_pos hlt, ← hr.get] at h2
      exact h.own b ⟨i, o, kk, obj, h1, h2, h3⟩
    · cases h1
  · rw [res_st] at h2
    split at h2
    · exact h.new i b o kk h1 h2
    · cases h2

theorem wk_drop (j : Nat) (hk : k ≤ j) (hτ : BelF j τ) (hH : BelH j (H.take j)) : Wk P k τ H τ (H.take j) := by
  rintro b w tmps hbk hb ⟨φ, σ, hr, hp, hl⟩
  exact ⟨res φ j, _, hp_rp _, hp.low hb hr (by omega) hH, fun t => hτ.lk t φ _ (hl t)⟩

/-- What a call leaves behind beyond a bound may be forgotten. -/
theorem SpecH.low {f : FuncId} {args : List Value} {v : Value} (h : SpecH P f args H v H2) (j : Nat) (hj : H.length ≤ j) (hv : Bel j v) (hH : BelH j (H2.take j)) : SpecH P f args H v (H2.take j) := by
  intro σ hσ
  obtain ⟨σ', hr, h1, h2, h3⟩ := h σ hσ
  refine ⟨_, hp_rp _, h1, ?_, ?_⟩
  · rw [(hp_rp _).size, List.length_take, ← hr.size, hσ.size]
    rw [hσ.size] at h2
    omega
  · intro φ w args' hR hargs
    refine (h3 φ w args' hR hargs).mono ?_
    rintro e w' ⟨φ', v', rfl, hv', hp⟩
    exact ⟨res φ' j, v', rfl, hv φ' v' hv', hp.low hR hr (by rw [hσ.size]; exact hj) hH⟩

/-- A call with a plain result that is handed no block. -/
theorem SpecH.pure {f : FuncId} {args : List Value} {v : Value} (h : SpecH P f args [] v H2) (hv : PV v) : SpecH P f args [] v [] := by
  have := h.low 0 (Nat.le_refl _) (hv.bel 0) (by simp [BelH])
  simpa using this

/-! ### A block is never written again -/

/-- Block 'j' becomes one that is never written again. -/
structure Froz (j : Nat) (cs : List Value) (φ φ2 : Phi) : Prop where
  le : Le φ φ2
  at_ : φ j = .absent ∨ ∃ b kk mc, φ j = .live b 0 kk ∧ φ2.fz b = some mc ∧ FsRel φ2.fz cs (mc.toList.take cs.length)
  one : ∀ v ∈ cs, v.one1 = true

/-- The second value is one for the first, behind that. -/
def VF (j : Nat) (cs : List Value) (v v2 : Value) : Prop := ∀ φ φ2 v', Froz j cs φ φ2 → VRel φ v v' → VRel φ2 v2 v'
theorem vf_same (j : Nat) (cs : List Value) (v : Value) : VF j cs v v := fun φ φ2 v' h hr => hr.mono h.le
theorem vf_le {j : Nat} {cs : List Value} {v v2 : Value} (h : VLe v v2) : VF j cs v v2 := fun φ φ2 v' hf hr => h _ _ (hr.mono hf.le)
theorem vf_slice (j : Nat) (cs : List Value) (off n fl sz : Nat) : VF j cs (.slice (some ⟨j, off, none⟩) n fl) (bvS n ((cs.drop off).take (n * sz))) := by
  intro φ φ2 v' hf hr
  cases hr with
  | slc h0 hc h1 =>
    rename_i a' c
    by_cases hn : n = 0
    · subst hn
      simp only [Nat.zero_mul, List.take_zero]
      exact .bvs (.bve _ _)
    · have ha := h0.resolve_left hn
      rcases hf.at_ with habs | ⟨b, kk, mc, h2, h3, h4⟩
      · unfold ARel at ha
        simp [habs] at ha
      unfold ARel at ha
      simp only [h2, Nat.zero_add] at ha
      subst ha
      refine .bvs (.bvs (mc := mc) hc h3 rfl (fun x hx => hf.one x (List.mem_of_mem_drop (List.mem_of_mem_take (by simpa using hx)))) ?_)
      have h5 := (h4.drop off).take (n * sz)
      have hl := h4.length
      simp only [List.length_take] at hl
      have : ((mc.toList.take cs.length).drop off).take (n * sz) = (mc.toList.drop off).take ((cs.drop off).take (n * sz)).length := by
        rw [List.drop_take, List.take_take]
        congr 1
        simp only [List.length_take, List.length_drop]
      rw [this] at h5
      simpa using h5
theorem vfs_rel {j : Nat} {cs : List Value} {φ φ2 : Phi} (hf : Froz j cs φ φ2) : ∀ {l l2 l' : List Value}, l.length = l2.length → (∀ (i : Nat) (v v2 : Value), l[i]? = some v → l2[i]? = some v2 → VF j cs v v2) → VsRel φ l l' → VsRel φ2 l2 l'
  | [], [], _, _, _, h => by cases h; exact .nil
  | [], _ :: _, _, h, _, _ => by simp at h
  | _ :: _, [], _, h, _, _ => by simp at h
  | v :: l, v2 :: l2, _, hl, hv, h => by
    cases h with
    | cons h1 h2 => exact .cons (hv 0 v v2 rfl rfl _ _ _ hf h1) (vfs_rel hf (by simpa using hl) (fun i a b ha hb => hv (i + 1) a b (by simpa using ha) (by simpa using hb)) h2)

/-- Cell by cell. -/
def VFs (j : Nat) (cs : List Value) : List Value → List Value → Prop
  | [], [] => True
  | v :: l, v2 :: l2 => VF j cs v v2 ∧ v2.one1 = true ∧ VFs j cs l l2
  | _, _ => False
theorem VFs.get {j : Nat} {cs : List Value} : ∀ {l l2 : List Value}, VFs j cs l l2 → ∀ (i : Nat) (v2 : Value), l2[i]? = some v2 → ∃ v, l[i]? = some v ∧ VF j cs v v2 ∧ v2.one1 = true
  | [], [], _, i, v2, h => by simp at h
  | v :: l, u :: l2, hv, 0, v2, h => by simp at h; subst h; exact ⟨v, rfl, hv.1, hv.2.1⟩
  | v :: l, u :: l2, hv, i + 1, v2, h => by simpa using VFs.get hv.2.2 i v2 (by simpa using h)
theorem VFs.same {j : Nat} {cs : List Value} : ∀ {l : List Value}, (∀ v ∈ l, v.one1 = true) → VFs j cs l l
  | [], _ => trivial
  | v :: l, h => ⟨vf_same _ _ _, h v (by simp), VFs.same fun u hu => h u (by simp [hu])⟩

def HF (k j : Nat) (cs : List Value) (τ : Fr) (H H2 : Hp) : Prop :=
  k ≤ j ∧ H2.length = H.length ∧ hget H2 j = none ∧ ∀ i, i ≠ j → hget H2 i = hget H i ∨ ((k ≤ i ∨ ∃ t a, lk τ t = .pointer (some a) ∧ a.block = i) ∧ ∃ o o2, hget H i = some o ∧ hget H2 i = some o2 ∧ o2.elem = o.elem ∧ o2.own = o.own ∧ VFs j cs o.cells o2.cells)

theorem wk_freeze (j : Nat) {o : AObj} (ho : hget H j = some o) (hown : o.own = true) (hone : ∀ v ∈ o.cells, v.one1 = true) (hpv : PVs o.cells) (hτ : ∀ t, VF j o.cells (lk τ t) (lk τ2 t)) (hH : HF k j o.cells τ H H2) : Wk P k τ H τ2 H2 := by
  rintro bg w tmps hbk hb ⟨φ, σ, hr, hp, hl⟩
  have hR := hp.rel
  have hg : σ.get j = some o := by rw [hr.get]; exact ho
  obtain ⟨hkj, hlen, hHj, hHo⟩ := hH
  have hgo := (hp_rp H2).get
  have hsz := (hp_rp H2).size
  have hjl : j < σ.size := by rw [hr.size]; exact hget_lt ho
  have hobj : ∀ i, i ≠ j → ∀ ob2, hget H2 i = some ob2 → ∃ ob, σ.get i = some ob ∧ ob2.elem = ob.elem ∧ ob2.own = ob.own ∧ (∀ (jj : Nat) (v2 : Value), ob2.cells[jj]? = some v2 → ∃ v, ob.cells[jj]? = some v ∧ VF j o.cells v v2 ∧ (v2.one1 = true ∨ v2 = v)) := by
    intro i hij ob2 h2
    rcases hHo i hij with h | ⟨_, oa, ob, h3, h4, h5, h6, h7⟩
    · rw [h2] at h
      exact ⟨ob2, by rw [hr.get]; exact h.symm, rfl, rfl, fun jj v2 hv => ⟨v2, hv, vf_same _ _ _, .inr rfl⟩⟩
    · rw [h2] at h4; cases h4
      exact ⟨oa, by rw [hr.get]; exact h3, h5, h6, fun jj v2 hv => by
        obtain ⟨v, a1, a2, a3⟩ := h7.get jj v2 hv
        exact ⟨v, a1, a2, .inl a3⟩⟩
  have core : ∀ φ2 : Phi, Froz j o.cells φ φ2 → (∀ i b' o' k', φ2 i = .live b' o' k' → i ≠ j ∧ φ i = .live b' o' k') → (∀ i p, φ2 i = .dead p → i = j ∨ φ i = .dead p) → (∀ i, φ i = .absent → φ2 i = .absent) →
      (∀ b c, φ2.fz b = some c → φ.fz b = some c ∨ (Owned φ σ b ∧ (∃ e fr, w.heap[b]? = some (.cells c e fr)))) → (∀ i b' o' k' ob, φ2 i = .live b' o' k' → σ.get i = some ob → ob.own = true → φ2.fz b' = none) →
      ∃ φ σ, Rp σ H2 ∧ Post P bg.φ bg.σ bg.w φ σ w ∧ LRel φ τ2 tmps := by
    intro φ2 hfr hφ2 hdd hab hfz hnz
    have hle := hfr.le
    have hR2 : R P φ2 (Bx.hp H2) w := by
      refine ⟨fun i hi => ?_, fun i p hi => ?_, fun i b' o' k' hi => ?_, fun i i2 b1 o1 k1 b2 o2 k2 ob h1 h2 h3 h4 h5 => ?_, fun b' c' hb' => ?_, fun i b' o' k' ob h1 h2 h3 => ?_⟩
      · rw [hsz, hlen, ← hr.size] at hi
        exact hab i (hR.bnd i hi)
      · rcases hdd i p hi with rfl | hd
        · rw [hgo]; exact hHj
        · have hd := hR.dead i p hd
          rw [hgo]
          by_cases hij : i = j
          · rw [hij]; exact hHj
          · rcases hHo i hij with h | ⟨_, oa, ob, h3, _⟩
            · rw [h, ← hr.get]; exact hd
            · rw [hr.get, h3] at hd; cases hd
      · obtain ⟨hij, hi⟩ := hφ2 i b' o' k' hi
        obtain ⟨ob, c', e', fr', a1, a2, a3, a4⟩ := hR.live i b' o' k' hi
        have : ∃ ob2, hget H2 i = some ob2 := by
          rcases hHo i hij with h | ⟨_, oa, ob2, _, h4, _⟩
          · exact ⟨ob, by rw [h, ← hr.get]; exact a1⟩
          · exact ⟨ob2, h4⟩
        obtain ⟨ob2, h2⟩ := this
        obtain ⟨ob', b1, b2, b3, b4⟩ := hobj i hij ob2 h2
        rw [a1] at b1; cases b1
        refine ⟨ob2, c', e', fr', by rw [hgo]; exact h2, a2, fun jj v2 hv => ?_, fun ho2 => ?_⟩
        · obtain ⟨v, d1, d2, d3⟩ := b4 jj v2 hv
          obtain ⟨d4, v', d5, d6⟩ := a3 jj v d1
          refine ⟨?_, v', d5, d2 φ φ2 v' hfr d6⟩
          rcases d3 with d3 | d3
          · exact d3
          · rw [d3]; exact d4
        · rw [b3] at ho2
          obtain ⟨x1, x2, x3, x4⟩ := a4 ho2
          exact ⟨x1, x2, by rw [b2]; exact x3, x4⟩
      · obtain ⟨hij, h1⟩ := hφ2 _ _ _ _ h1
        obtain ⟨hij2, h2⟩ := hφ2 _ _ _ _ h2
        rw [hgo] at h3
        obtain ⟨ob', c1, c2, c3, _⟩ := hobj i hij ob h3
        exact hR.excl i i2 b1 o1 k1 b2 o2 k2 ob' h1 h2 c1 (by rw [← c3]; exact h4) h5
      · rcases hfz b' c' hb' with h | ⟨_, h⟩
        · exact hR.froz b' c' h
        · exact h
      · obtain ⟨hij, _⟩ := hφ2 _ _ _ _ h1
        rw [hgo] at h2
        obtain ⟨ob', c1, c2, c3, _⟩ := hobj i hij ob h2
        rw [c3] at h3
        exact hnz i b' o' k' ob' h1 c1 h3
    refine ⟨φ2, _, hp_rp H2, ⟨?_, hp.le.trans hle, fun i hi ha => ?_, hR2, fun b' hb' => ?_, fun i b' o' k' h1 h2 => ?_, hp.keep, hp.grow, hp.env, fun b' c' hb' => ?_⟩, fun t => hτ t φ φ2 _ hfr (hl t)⟩
    · rw [hsz, hlen, ← hr.size]; exact hp.size
    · obtain ⟨h1, h2⟩ := hp.abs i hi ha
      have hij : i ≠ j := by omega
      refine ⟨hab i h1, ?_⟩
      rw [hgo]
      rcases hHo i hij with h | ⟨hki, _⟩
      · rw [h, ← hr.get]; exact h2
      · rcases hki with hki | ⟨t, a, hta, rfl⟩
        · omega
        · have := hl t
          rw [hta] at this
          generalize tmps.getD t undef = y at this
          cases this with
          | ptr hAR => exact absurd h1 hAR.dom
    · obtain ⟨i, o', k', ob, h1, h2, h3⟩ := hb'
      obtain ⟨hij, h1⟩ := hφ2 _ _ _ _ h1
      rw [hgo] at h2
      obtain ⟨ob', c1, c2, c3, _⟩ := hobj i hij ob h2
      exact hp.own b' ⟨i, o', k', ob', h1, c1, by rw [← c3]; exact h3⟩
    · obtain ⟨_, h2⟩ := hφ2 _ _ _ _ h2
      exact hp.new i b' o' k' h1 h2
    · rcases hfz b' c' hb' with h | ⟨h, _⟩
      · exact hp.fz b' c' h
      · exact .inr (hp.own b' h)
  cases hj : φ j with
  | dead p => rw [hR.dead j p hj] at hg; cases hg
  | absent =>
    refine core φ ⟨Le.refl _, .inl hj, hone⟩ (fun i b' o' k' h => ⟨fun e => (by rw [e, hj] at h; cases h), h⟩) (fun i p h => .inr h) (fun i h => h) (fun b c h => .inl h) (fun i b' o' k' ob h1 h2 h3 => hR.nofz i b' o' k' ob h1 h2 h3)
  | live b off kk =>
    obtain ⟨obj, c, e, fr, g1, g2, g3, g4⟩ := hR.live j b off kk hj
    rw [hg] at g1; cases g1
    obtain ⟨rfl, rfl, rfl, _⟩ := g4 hown
    have hnz := hR.nofz j b 0 kk o hj hg hown
    let φ2 : Phi := ⟨fun i => if i = j then .dead none else φ i, fun b' => if b' = b then some c else φ.fz b'⟩
    have hle : Le φ φ2 := by
      refine ⟨fun i _ => ?_, fun b' c' hb' => ?_⟩
      · by_cases hi : i = j
        · exact .inr ⟨by simp [φ2, hi], fun x => by rw [hi, hj]; simp⟩
        · exact .inl (by simp [φ2, hi])
      · have : b' ≠ b := fun e => by rw [e, hnz] at hb'; cases hb'
        simp [φ2, this, hb']
    have hfs : FsRel φ2.fz o.cells (c.toList.take o.cells.length) := by
      refine FsRel.of_get ?_ ?_
      · have : o.cells.length ≤ c.size := by
          rcases Nat.eq_zero_or_pos o.cells.length with h0 | h0
          · omega
          · obtain ⟨_, v', hv', _⟩ := g3 (o.cells.length - 1) _ (List.getElem?_eq_getElem (by omega))
            have := (Array.getElem?_eq_some_iff.1 hv').1
            omega
        simp; omega
      · intro i v hv
        obtain ⟨_, v', hv', hrel⟩ := g3 i v hv
        have hlt := (List.getElem?_eq_some_iff.1 hv).1
        refine ⟨v', ?_, ((hpv v (List.mem_of_getElem? hv)) φ v' hrel).mono hle.fz⟩
        rw [List.getElem?_take_of_lt hlt, Array.getElem?_toList]
        rw [Nat.zero_add] at hv'
        exact hv'
    have hφ2 : ∀ i b' o' k', φ2 i = .live b' o' k' → i ≠ j ∧ φ i = .live b' o' k' := by
      intro i b' o' k' hi
      by_cases hij : i = j
      · simp [φ2, hij] at hi
      · simp only [φ2, hij, if_false] at hi; exact ⟨hij, hi⟩
    refine core φ2 ⟨hle, .inr ⟨b, kk, c, hj, by simp [φ2], hfs⟩, hone⟩ hφ2 (fun i p hi => ?_) (fun i hi => ?_) (fun b' c' hb' => ?_) (fun i b' o' k' ob h1 h2 h3 => ?_)
    · by_cases hij : i = j
      · exact .inl hij
      · simp only [φ2, hij, if_false] at hi; exact .inr hi
    · have hij : i ≠ j := fun e => by rw [e, hj] at hi; cases hi
      simp only [φ2, hij, if_false]; exact hi
    · simp only [φ2] at hb'
      split at hb'
      · rename_i hbb
        cases hb'
        rw [hbb]
        exact .inr ⟨⟨j, 0, kk, o, hj, hg, hown⟩, _, _, g2⟩
      · exact .inl hb'
    · obtain ⟨hij, h1⟩ := hφ2 _ _ _ _ h1
      have hbb : b' ≠ b := hR.excl i j b' o' k' b 0 kk ob h1 hj h2 h3 hij
      simp only [φ2, hbb, if_false]
      exact hR.nofz i b' o' k' ob h1 h2 h3

/-- The slice in a temporary becomes one whose memory is never written again. -/
theorem wk_freeze1 (t j n off fl sz : Nat) {o : AObj} (hk : k ≤ j) (ht : lk τ t = .slice (some ⟨j, off, none⟩) n fl) (ho : hget H j = some o) (hown : o.own = true) (hone : ∀ v ∈ o.cells, v.one1 = true) (hpv : PVs o.cells) :
    Wk P k τ H ((t, bvS n ((o.cells.drop off).take (n * sz))) :: τ) (hkill H j) := by
  refine wk_freeze j ho hown hone hpv (fun s => ?_) ⟨hk, by simp [hkill], by rw [hget_kill]; simp, fun i hi => .inl (by rw [hget_kill, if_neg hi])⟩
  simp only [lk]
  by_cases hs : s = t
  · subst hs
    simp only [Nat.beq_refl, cond_true, ht]
    exact vf_slice _ _ _ _ _ _
  · rw [beqF hs]; exact vf_same _ _ _

end Go.Bx

