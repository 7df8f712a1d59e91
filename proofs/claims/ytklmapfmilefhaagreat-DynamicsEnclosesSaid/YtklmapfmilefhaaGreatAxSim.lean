/-
  AX: rules to step through code with 'simp'.
-/
import Derived.Test.YtklmapfmilefhaaGreatAxPure
set_option linter.unusedSimpArgs false
set_option linter.unusedVariables false
set_option linter.unusedSectionVars false
namespace Go.Ax
variable (cf : CallF) (ρ : Operand → Value) (σ : AHeap) (τ : Tmps)

theorem s_mv (x : Operand) : op2 cf ρ σ (.mv x) = some (ρ x, σ) := rfl
theorem s_pick (c a b : Operand) : op2 cf ρ σ (.pick c a b) = match ρ c with | .bool true => some (ρ a, σ) | .bool false => some (ρ b, σ) | _ => none := rfl
theorem s_alloc (e : TypeId) (zc : List Value) : op2 cf ρ σ (.alloc e zc) = some (.pointer (some ⟨σ.size, 0, none⟩), σ.push ⟨zc, e, true⟩) := rfl
theorem s_box (e : TypeId) (x : Operand) : op2 cf ρ σ (.box e x) = cond (storable (ρ x)) (some (.pointer (some ⟨σ.size, 0, none⟩), σ.push ⟨(ρ x).cells.toList, e, true⟩)) none := rfl
theorem s_build (zc : List Value) (parts : List (Nat × Nat × Operand)) : op2 cf ρ σ (.build zc parts) = match fillL zc (parts.map fun p => (p.1, p.2.1, ρ p.2.2)) with | some cs => some (.agg cs.toArray, σ) | none => none := rfl
theorem s_load (sz : Option Nat) (x : Operand) : op2 cf ρ σ (.load sz x) = match ρ x with | .pointer (some a) => (match σ.read sz a with | some v => some (v, σ) | none => none) | _ => none := rfl
theorem s_store (sz : Nat) (x v : Operand) : op2 cf ρ σ (.store sz x v) = match ρ x with
    | .pointer (some a) => (match σ.get a.block with
      | some o => cond (o.own && storable (ρ v) && Nat.beq (ρ v).cells.size sz && Nat.ble (a.off + sz) o.cells.length)
          (some (undef, σ.put a.block ⟨setAt o.cells a.off (ρ v).cells.toList, o.elem, true⟩)) none
      | none => none)
    | _ => none := rfl
theorem s_bin (op : BinOp) (e : EK) (x y : Operand) : op2 cf ρ σ (.bin op e x y) = match binA op e (ρ x) (ρ y) with | some v => some (v, σ) | none => none := rfl
theorem s_un (op : UnOp) (x : Operand) : op2 cf ρ σ (.un op x) = match unA op (ρ x) with | some v => some (v, σ) | none => none := rfl
theorem s_conv (k : IntKind) (x : Operand) : op2 cf ρ σ (.conv k x) = match ρ x with | .int _ n => some (.int k (k.wrap n), σ) | _ => none := rfl
theorem s_fieldAddr (off : Nat) (x : Operand) : op2 cf ρ σ (.fieldAddr off x) = match ρ x with | .pointer (some a) => some (.pointer (some ⟨a.block, a.off + off, none⟩), σ) | _ => none := rfl
theorem s_idxAddrN (n sz : Nat) (x i : Operand) : op2 cf ρ σ (.idxAddr (some n) sz x i) = match ρ x, ρ i with
    | .pointer (some a), .int _ j => if 0 ≤ j ∧ j < (n : Int) then some (.pointer (some ⟨a.block, a.off + j.toNat * sz, none⟩), σ) else none
    | _, _ => none := rfl
theorem s_ext (x : Operand) (i : Nat) : op2 cf ρ σ (.ext x i) = match ρ x with | .tuple vs => (match vs.toList[i]? with | some v => some (v, σ) | none => none) | _ => none := rfl
theorem s_minmax (b : Bool) (xs : List Operand) : op2 cf ρ σ (.minmax b xs) = match xs.map ρ with
    | x :: rest => (match minmaxA b x rest with | some v => some (v, σ) | none => none)
    | [] => none := rfl
theorem s_call (g : FuncId) (args : List Operand) (h : ρ (.func g) = .func (.func g) #[] #[]) : op2 cf ρ σ (.call (.func g) args) = cf g (args.map ρ) σ := by
  simp only [op2, h]
  simp
theorem s_call' (g : FuncId) (args : List Operand) : op2 cf (opd τ) σ (.call (.func g) args) = cf g (args.map (opd τ)) σ := s_call cf (opd τ) σ g args rfl

theorem opd_tmp (t : Nat) : opd τ (.tmp t) = Tmps.at τ t := rfl
theorem opd_const (v : Value) : opd τ (.const v) = v := rfl
theorem at_nil (t : Nat) : Tmps.at (.nil : Tmps) t = undef := rfl
theorem size_empty : AHeap.empty.size = 0 := rfl
theorem get_empty (i : Nat) : AHeap.empty.get i = none := rfl
theorem put_some (d : Nat) (v : Value) : putA τ (some d) v = τ.set d (some v) := rfl
theorem put_none (v : Value) : putA τ none v = τ := rfl

theorem wrap64 {n : Int} (h1 : -9223372036854775808 ≤ n) (h2 : n ≤ 9223372036854775807) : IntKind.wrap .i64 n = n := by
  unfold IntKind.wrap
  simp only [IntKind.bits, IntKind.signed]
  by_cases h : 0 ≤ n
  · have : n % 2 ^ 64 = n := Int.emod_eq_of_lt h (by omega)
    simp [this]; omega
  · have : n % 2 ^ 64 = n + 2 ^ 64 := by omega
    simp [this]; omega
theorem wrapU64 {n : Int} (h1 : 0 ≤ n) (h2 : n ≤ 18446744073709551615) : IntKind.wrap .u64 n = n := by
  unfold IntKind.wrap
  have : n % 2 ^ 64 = n := Int.emod_eq_of_lt h1 (by omega)
  simp [IntKind.bits, IntKind.signed] at *
  omega
theorem wrapU64_mod (n : Int) : IntKind.wrap .u64 n = n % 18446744073709551616 := by
  unfold IntKind.wrap
  simp [IntKind.bits, IntKind.signed]

/-! ### Rules for code -/

def EvO (cf : CallF) (ops : List AOper) (τ : Tmps) (σ : AHeap) (Q : Tmps → AHeap → Prop) : Prop := ∃ τ' σ', evalOps cf ops τ σ = some (τ', σ') ∧ Q τ' σ'
def EvC (cf : CallF) (n : Nat) (c : ACode) (τ : Tmps) (σ : AHeap) (Q : AExit → Tmps → AHeap → Prop) : Prop := ∃ e τ' σ', evalC cf n c τ σ = some (e, τ', σ') ∧ Q e τ' σ'
def EvF (cf : CallF) (A : AProg) (n : Nat) (f : FuncId) (args : List Value) (σ : AHeap) (Q : Value → AHeap → Prop) : Prop := ∃ v σ', stepF cf A n f args σ = some (v, σ') ∧ Q v σ'

def Then (cf : CallF) (n : Nat) (c : ACode) (Q : AExit → Tmps → AHeap → Prop) : AExit → Tmps → AHeap → Prop
  | .normal, τ, σ => EvC cf n c τ σ Q
  | e, τ, σ => Q e τ σ
def InBlock (id : Nat) (Q : AExit → Tmps → AHeap → Prop) : AExit → Tmps → AHeap → Prop
  | .exit j, τ, σ => if j = id then Q .normal τ σ else Q (.exit j) τ σ
  | e, τ, σ => Q e τ σ

variable {cf : CallF} {n : Nat} {τ : Tmps} {σ : AHeap} {Q : AExit → Tmps → AHeap → Prop} {q : Tmps → AHeap → Prop}

theorem o_nil (h : q τ σ) : EvO cf [] τ σ q := ⟨τ, σ, rfl, h⟩
theorem o_step {dst : Option Tmp} {op : AOp} {g : Option (Option Tmp × Bool)} {chk : List Nat} {rest : List AOper} {v : Value} {σ' : AHeap} (hw : wantedA τ g = true) (ho : op2 cf (opd τ) σ op = some (v, σ')) (h : EvO cf rest (putA τ dst v) σ' q) :
    EvO cf (⟨dst, op, g, chk⟩ :: rest) τ σ q := by
  obtain ⟨τ1, σ1, h1, h2⟩ := h
  exact ⟨τ1, σ1, by simp only [evalOps, hw, ho]; exact h1, h2⟩
theorem o_skip {dst : Option Tmp} {op : AOp} {g : Option (Option Tmp × Bool)} {chk : List Nat} {rest : List AOper} (hw : wantedA τ g = false) (h : EvO cf rest (putA τ dst undef) σ q) :
    EvO cf (⟨dst, op, g, chk⟩ :: rest) τ σ q := by
  obtain ⟨τ1, σ1, h1, h2⟩ := h
  exact ⟨τ1, σ1, by simp only [evalOps, hw]; exact h1, h2⟩
theorem c_region {ops : List AOper} (h : EvO cf ops τ σ (Q .normal)) : EvC cf n (.region ops) τ σ Q := by
  obtain ⟨τ1, σ1, h1, h2⟩ := h
  exact ⟨.normal, τ1, σ1, by simp only [evalC, h1], h2⟩
theorem c_skip (h : Q .normal τ σ) : EvC cf n .skip τ σ Q := ⟨.normal, τ, σ, rfl, h⟩
theorem c_ret (h : Q .ret τ σ) : EvC cf n .ret τ σ Q := ⟨.ret, τ, σ, rfl, h⟩
theorem c_exit {i : Nat} (h : Q (.exit i) τ σ) : EvC cf n (.exit i) τ σ Q := ⟨.exit i, τ, σ, rfl, h⟩
theorem c_seq {a b : ACode} (h : EvC cf n a τ σ (Then cf n b Q)) : EvC cf n (.seq a b) τ σ Q := by
  obtain ⟨e, τ1, σ1, h1, h2⟩ := h
  cases e with
  | normal =>
    obtain ⟨e, τ2, σ2, h3, h4⟩ := h2
    exact ⟨e, τ2, σ2, by simp only [evalC, h1]; exact h3, h4⟩
  | exit i => exact ⟨_, τ1, σ1, by simp only [evalC, h1], h2⟩
  | ret => exact ⟨_, τ1, σ1, by simp only [evalC, h1], h2⟩
theorem c_true {c : Operand} {a b : ACode} (hc : opd τ c = .bool true) (h : EvC cf n a τ σ Q) : EvC cf n (.cond c a b) τ σ Q := by
  obtain ⟨e, τ1, σ1, h1, h2⟩ := h
  exact ⟨e, τ1, σ1, by simp only [evalC, hc]; exact h1, h2⟩
theorem c_false {c : Operand} {a b : ACode} (hc : opd τ c = .bool false) (h : EvC cf n b τ σ Q) : EvC cf n (.cond c a b) τ σ Q := by
  obtain ⟨e, τ1, σ1, h1, h2⟩ := h
  exact ⟨e, τ1, σ1, by simp only [evalC, hc]; exact h1, h2⟩
theorem c_block {id : Nat} {a : ACode} (h : EvC cf n a τ σ (InBlock id Q)) : EvC cf n (.block id a) τ σ Q := by
  obtain ⟨e, τ1, σ1, h1, h2⟩ := h
  cases e with
  | normal => exact ⟨_, τ1, σ1, by simp only [evalC, h1], h2⟩
  | ret => exact ⟨_, τ1, σ1, by simp only [evalC, h1], h2⟩
  | exit j =>
    by_cases hj : j = id
    · subst hj
      exact ⟨.normal, τ1, σ1, by simp only [evalC, h1, Nat.beq_refl, cond_true], by simpa [InBlock] using h2⟩
    · exact ⟨.exit j, τ1, σ1, by simp only [evalC, h1, beqF hj, cond_false], by simpa [InBlock, hj] using h2⟩
/-- The loop with its turns counted from the outside. -/
def EvL (cf : CallF) (n : Nat) (c : ACode) (Q : AExit → Tmps → AHeap → Prop) (m : Nat) (τ : Tmps) (σ : AHeap) : Prop := ∃ e τ' σ', loopN m (evalC cf n c) τ σ = some (e, τ', σ') ∧ Q e τ' σ'
def Again (cf : CallF) (n : Nat) (c : ACode) (Q : AExit → Tmps → AHeap → Prop) (m : Nat) : AExit → Tmps → AHeap → Prop
  | .normal, τ, σ => EvL cf n c Q m τ σ
  | e, τ, σ => Q e τ σ
theorem l_step {m : Nat} {a : ACode} (h : EvC cf n a τ σ (Again cf n a Q m)) : EvL cf n a Q (m + 1) τ σ := by
  obtain ⟨e, τ1, σ1, h1, h2⟩ := h
  cases e with
  | normal =>
    obtain ⟨e, τ2, σ2, h3, h4⟩ := h2
    exact ⟨e, τ2, σ2, by simp only [loopN, h1]; exact h3, h4⟩
  | exit i => exact ⟨_, τ1, σ1, by simp only [loopN, h1], h2⟩
  | ret => exact ⟨_, τ1, σ1, by simp only [loopN, h1], h2⟩
theorem c_loop {a : ACode} (h : EvL cf n a Q n τ σ) : EvC cf n (.loop a) τ σ Q := by
  obtain ⟨e, τ1, σ1, h1, h2⟩ := h
  exact ⟨e, τ1, σ1, by simp only [evalC]; exact h1, h2⟩

def Res (F : AFunc) (q : Value → AHeap → Prop) : AExit → Tmps → AHeap → Prop
  | .exit _, _, _ => False
  | _, τ, σ => ∃ vs, resAll τ σ F.res = some vs ∧ q (packRes vs) σ
theorem f_step {A : AProg} {f : FuncId} {F : AFunc} {args : List Value} {q : Value → AHeap → Prop} (hA : A f = some F) (h : EvC cf n F.code (ofArgs 0 args .nil) σ (Res F q)) : EvF cf A n f args σ q := by
  obtain ⟨e, τ1, σ1, h1, h2⟩ := h
  cases e with
  | exit i => exact h2.elim
  | normal =>
    obtain ⟨vs, h3, h4⟩ := h2
    exact ⟨packRes vs, σ1, by simp only [stepF, hA, h1, h3], h4⟩
  | ret =>
    obtain ⟨vs, h3, h4⟩ := h2
    exact ⟨packRes vs, σ1, by simp only [stepF, hA, h1, h3], h4⟩
end Go.Ax
