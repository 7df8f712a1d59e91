/-
  AX: calls with plain arguments and plain results, known once and for all.
-/
import Derived.Test.YtklmapfmilefhaaGreatAxCode
set_option linter.unusedSimpArgs false
set_option linter.unusedVariables false
set_option linter.unusedSectionVars false
namespace Go.Ax
variable {P : Program}

def atomV : Value → Bool
  | .bool _ | .int _ _ | .string _ => true
  | _ => false
def flat1 : Value → Bool
  | .agg xs => xs.toList.all atomV
  | v => atomV v
def flatV : Value → Bool
  | .tuple xs => xs.toList.all flat1
  | v => flat1 v

theorem atom_eq {φ : Phi} {v v' : Value} (h : VRel φ v v') (hf : atomV v = true) : v' = v := by
  cases h <;> first | rfl | simp [atomV] at hf
theorem atom_rel {φ : Phi} {v : Value} (hf : atomV v = true) : VRel φ v v := by
  cases v <;> first | (simp [atomV] at hf; done) | constructor
theorem atom_one {v : Value} (hf : atomV v = true) : v.oneCell' = true := by
  cases v <;> first | (simp [atomV] at hf; done) | rfl
theorem atoms_eq {φ : Phi} : ∀ {l l' : List Value}, VsRel φ l l' → l.all atomV = true → l' = l
  | _, _, .nil, _ => rfl
  | _, _, .cons h hs, hf => by
    simp only [List.all_cons, Bool.and_eq_true] at hf
    rw [atom_eq h hf.1, atoms_eq hs hf.2]
theorem atoms_rel {φ : Phi} : ∀ {l : List Value}, l.all atomV = true → VsRel φ l l
  | [], _ => .nil
  | v :: l, hf => by
    simp only [List.all_cons, Bool.and_eq_true] at hf
    exact .cons (atom_rel hf.1) (atoms_rel hf.2)
theorem flat1_eq {φ : Phi} {v v' : Value} (h : VRel φ v v') (hf : flat1 v = true) : v' = v := by
  cases h with
  | agg h1 h => rw [Array.toList_inj.1 (atoms_eq h (by simpa [flat1] using hf))]
  | _ => first | rfl | simp [flat1, atomV] at hf
theorem flat1_rel {φ : Phi} {v : Value} (hf : flat1 v = true) : VRel φ v v := by
  cases v with
  | agg xs =>
    have hf' : xs.toList.all atomV = true := by simpa [flat1] using hf
    exact .agg (fun x hx => atom_one (List.all_eq_true.1 hf' x hx)) (atoms_rel hf')
  | _ => exact atom_rel (by simpa [flat1] using hf)
theorem flats_eq {φ : Phi} : ∀ {l l' : List Value}, VsRel φ l l' → l.all flat1 = true → l' = l
  | _, _, .nil, _ => rfl
  | _, _, .cons h hs, hf => by
    simp only [List.all_cons, Bool.and_eq_true] at hf
    rw [flat1_eq h hf.1, flats_eq hs hf.2]
theorem flats_rel {φ : Phi} : ∀ {l : List Value}, l.all flat1 = true → VsRel φ l l
  | [], _ => .nil
  | v :: l, hf => by
    simp only [List.all_cons, Bool.and_eq_true] at hf
    exact .cons (flat1_rel hf.1) (flats_rel hf.2)
theorem flatV_eq {φ : Phi} {v v' : Value} (h : VRel φ v v') (hf : flatV v = true) : v' = v := by
  cases h with
  | tuple h => rw [Array.toList_inj.1 (flats_eq h (by simpa [flatV] using hf))]
  | agg h1 h => exact flat1_eq (.agg h1 h) (by simpa [flatV] using hf)
  | _ => first | rfl | simp [flatV, flat1, atomV] at hf
theorem flatV_rel {φ : Phi} {v : Value} (hf : flatV v = true) : VRel φ v v := by
  cases v with
  | tuple xs => exact .tuple (flats_rel (by simpa [flatV] using hf))
  | _ => exact flat1_rel (by simpa [flatV] using hf)

def absent : Phi := fun _ => .absent
theorem R.zero (P : Program) (w : World) : R P absent AHeap.empty w :=
  ⟨fun _ _ => rfl, fun _ _ h => by simp [absent] at h, fun _ _ _ _ h => by simp [absent] at h, fun _ _ _ _ _ _ _ _ _ h => by simp [absent] at h⟩
theorem owned_zero (b : Nat) : ¬ Owned absent AHeap.empty b := by
  rintro ⟨i, o, k, obj, h, _⟩
  simp [absent] at h

/-- A call of plain arguments with a plain result. -/
def Pure (P : Program) (f : FuncId) (args : List Value) (v : Value) : Prop :=
  args.all flat1 = true ∧ flatV v = true ∧ ∃ cf : CallF, SndF P cf ∧ ∃ σ', cf f args AHeap.empty = some (v, σ')

/-- What keeps all that was there keeps every relation. -/
theorem R.carry {φ : Phi} {σ : AHeap} {w w' : World} (h : R P φ σ w) (hk : ∀ b, b < w.heap.size → w'.heap[b]? = w.heap[b]?) : R P φ σ w' :=
  ⟨h.bnd, h.dead, fun i b o k hl => by
    obtain ⟨obj, c, e, fr, h1, h2, h3⟩ := h.live i b o k hl
    exact ⟨obj, c, e, fr, h1, by rw [hk b (h.blk_lt hl)]; exact h2, h3⟩, h.excl⟩

def pureX (K : FuncId → List Value → Option Value) : CallF := fun f args σ => (K f args).map (·, σ)

theorem pureX_sound {K : FuncId → List Value → Option Value} (hK : ∀ f args v, K f args = some v → Pure P f args v) : SndF P (pureX K) := by
  intro f args σ v σ' h
  unfold pureX at h
  simp only [Option.map_eq_some_iff, Prod.mk.injEq] at h
  obtain ⟨v0, hv0, rfl, rfl⟩ := h
  obtain ⟨ha, hv, cf, hs, σ1, he⟩ := hK f args v0 hv0
  obtain ⟨h1, _, h3⟩ := hs f args AHeap.empty v0 σ1 he
  refine ⟨h1, Nat.le_refl _, ?_⟩
  intro φ w args' hR hargs
  obtain rfl := flats_eq hargs ha
  refine (h3 absent w args' (R.zero P w) (flats_rel ha)).mono ?_
  rintro e w' ⟨φ1, v1, rfl, hv1, hp⟩
  obtain rfl := flatV_eq hv1 hv
  have hk : ∀ b, b < w.heap.size → w'.heap[b]? = w.heap[b]? := fun b hb => hp.keep b hb (owned_zero b)
  exact ⟨φ, v1, rfl, flatV_rel hv, ⟨Nat.le_refl _, Le.refl _, fun _ _ h => ⟨h, rfl⟩, hR.carry hk, fun _ h => .inl h, fun i b o k h1 h2 => by (rw [h1] at h2; cases h2), fun b hb _ => hk b hb, hp.grow, hp.env⟩⟩

theorem evalX_pure {K : FuncId → List Value → Option Value} (hK : ∀ f args v, K f args = some v → Pure P f args v) {A : AProg} (hA : Ok P A) (hm : P.follows .mixedOrders = true) (n : Nat) {f : FuncId} {args : List Value} {v : Value} {σ' : AHeap}
    (ha : args.all flat1 = true) (hv : flatV v = true) (he : evalX (pureX K) A n f args AHeap.empty = some (v, σ')) : Pure P f args v :=
  ⟨ha, hv, _, evalX_sound (pureX_sound hK) hA hm n, σ', he⟩

/-! ### Tables of closed calls -/

def flatEq1 : Value → Value → Bool
  | .agg xs, .agg ys => valsEq xs.toList ys.toList
  | v, w => valEq v w
def flatsEq : List Value → List Value → Bool
  | [], [] => true
  | a :: x, b :: y => flatEq1 a b && flatsEq x y
  | _, _ => false
def sameV : Value → Value → Bool
  | .tuple xs, .tuple ys => flatsEq xs.toList ys.toList
  | v, w => flatEq1 v w

theorem flatEq1_eq {v w : Value} (h : flatEq1 v w = true) : v = w := by
  unfold flatEq1 at h
  split at h
  · rw [Array.toList_inj.1 (valsEq_eq h)]
  · exact valEq_eq h
theorem flatsEq_eq : ∀ {l m : List Value}, flatsEq l m = true → l = m
  | [], [], _ => rfl
  | [], _ :: _, h => by simp [flatsEq] at h
  | _ :: _, [], h => by simp [flatsEq] at h
  | a :: x, b :: y, h => by
    simp only [flatsEq, Bool.and_eq_true] at h
    rw [flatEq1_eq h.1, flatsEq_eq h.2]
theorem sameV_eq {v w : Value} (h : sameV v w = true) : v = w := by
  unfold sameV at h
  split at h
  · rw [Array.toList_inj.1 (flatsEq_eq h)]
  · exact flatEq1_eq h

abbrev Table := List (FuncId × List Value × Value)
def look : Table → FuncId → List Value → Option Value
  | [], _, _ => none
  | (g, as, v) :: rest, f, args => cond (Nat.beq g f && flatsEq as args) (some v) (look rest f args)

def Good (P : Program) (t : Table) : Prop := ∀ f args v, look t f args = some v → Pure P f args v
theorem Good.nil : Good P [] := fun _ _ _ h => by simp [look] at h
theorem Good.cons {t : Table} (h : Good P t) {f : FuncId} {args : List Value} {v : Value} (hp : Pure P f args v) : Good P ((f, args, v) :: t) := by
  intro g as u hl
  simp only [look] at hl
  cases hb : (Nat.beq f g && flatsEq args as) with
  | true =>
    rw [hb] at hl
    simp only [Bool.and_eq_true] at hb
    obtain rfl := Nat.eq_of_beq_eq_true hb.1
    obtain rfl := flatsEq_eq hb.2
    simp only [cond_true, Option.some.injEq] at hl
    rw [← hl]; exact hp
  | false =>
    rw [hb] at hl
    exact h g as u hl

/-- One closed call more, by computation. -/
def closedB (A : AProg) (t : Table) (n : Nat) (f : FuncId) (args : List Value) (v : Value) : Bool :=
  args.all flat1 && flatV v && (match evalX (pureX (look t)) A n f args AHeap.empty with | some (u, _) => sameV u v | none => false)

theorem Good.more {t : Table} (h : Good P t) {A : AProg} (hA : Ok P A) (hm : P.follows .mixedOrders = true) (n : Nat) {f : FuncId} {args : List Value} {v : Value} (hb : closedB A t n f args v = true) : Pure P f args v := by
  simp only [closedB, Bool.and_eq_true] at hb
  obtain ⟨⟨ha, hv⟩, he⟩ := hb
  split at he
  · rename_i u σ' heq
    obtain rfl := sameV_eq he
    exact evalX_pure h hA hm n ha hv heq
  · cases he
end Go.Ax
