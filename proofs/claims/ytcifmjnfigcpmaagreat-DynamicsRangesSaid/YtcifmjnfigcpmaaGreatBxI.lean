/-
  BX, LOGIC 7: rules to step through code; calls by what is known of them.
-/
import Derived.Test.YtcifmjnfigcpmaaGreatBxH
import Derived.Laws.Externs
set_option linter.unusedSimpArgs false
set_option linter.unusedVariables false
set_option linter.unusedSectionVars false
namespace Go.Bx
variable {P : Program}

/-! ### Calls -/

/-- A call of plain values with a plain result. -/
structure Pur (P : Program) (f : FuncId) (args : List Value) (v : Value) : Prop where
  spec : SpecH P f args [] v []
  args : PVs args
  res : PV v

theorem renvs_pv {ι : List Nat} : ∀ {l : List Value}, PVs l → RenVs ι l l
  | [], _ => .nil
  | v :: l, h => .cons (.pv (h v (by simp))) (renvs_pv fun u hu => h u (by simp [hu]))

theorem Pur.any {f : FuncId} {args : List Value} {v : Value} (h : Pur P f args v) (H : Hp) : SpecH P f args H v H := by
  refine h.spec.frame (ι := []) ⟨rfl, Nat.le_refl _, by simp, List.nodup_nil, by simp, by simp, fun i b hb => ?_, fun _ _ _ => rfl, by simp⟩ (renvs_pv h.args) (.pv h.res)
  simp [names] at hb

/-- A method of a block: its plain arguments and result, the block before and behind. -/
structure Meth (P : Program) (f : FuncId) (args : List Value) (o : AObj) (v : Value) (o' : AObj) : Prop where
  spec : SpecH P f (.pointer (some ⟨0, 0, none⟩) :: args) [some o] v [some o']
  args : PVs args
  res : PV v
  cells : PVs o.cells
  cells' : PVs o'.cells

theorem Meth.any {f : FuncId} {args : List Value} {o o' : AObj} {v : Value} (h : Meth P f args o v o') {H : Hp} {b : Nat} (hb : hget H b = some o) : SpecH P f (.pointer (some ⟨b, 0, none⟩) :: args) H v (hput H b o') := by
  have hlt := hget_lt hb
  refine h.spec.frame (ι := [b]) ⟨rfl, Nat.le_refl _, by simpa using hlt, by simp, fun i c hc => ?_, by simp [hput], fun i c hc => ?_, fun c hc hn => ?_, fun i c hc hs => ?_⟩ (.cons (.ptr rfl) (renvs_pv h.args)) (.pv h.res)
  · cases i with
    | zero =>
      simp at hc; subst hc
      rw [hb]
      exact ⟨rfl, rfl, renvs_pv h.cells⟩
    | succ i => simp at hc
  · simp only [names, List.length_cons, List.length_nil] at hc
    cases i with
    | zero =>
      simp at hc; subst hc
      rw [hget_put _ _ _ _ hlt, if_pos rfl]
      exact ⟨rfl, rfl, renvs_pv h.cells'⟩
    | succ i => simp at hc
  · rw [hget_put _ _ _ _ hlt, if_neg]
    intro e; exact hn (by simp [e])
  · cases i with
    | zero =>
      simp at hc; subst hc
      have : some o' = some o := hs
      cases this
      rw [hget_put _ _ _ _ hlt, if_pos rfl, hb]
    | succ i => simp at hc

/-- A call of plain values that makes one block and hands back a slice of it. -/
structure Fresh (P : Program) (f : FuncId) (args : List Value) (n : Nat) (o : AObj) : Prop where
  spec : SpecH P f args [] (.slice (some ⟨0, 0, none⟩) n 1) [some o]
  args : PVs args
  cells : PVs o.cells

theorem Fresh.any {f : FuncId} {args : List Value} {n : Nat} {o : AObj} (h : Fresh P f args n o) (H : Hp) : SpecH P f args H (.slice (some ⟨H.length, 0, none⟩) n 1) (hpush H o) := by
  refine h.spec.frame (ι := []) ⟨rfl, by simp, by simp, List.nodup_nil, by simp, by simp [hpush], fun i b hb => ?_, fun b hb _ => ?_, by simp⟩ (renvs_pv h.args) (.slc (a := ⟨0, 0, none⟩) (by simp [names]))
  · cases i with
    | zero =>
      simp [names] at hb; subst hb
      rw [hget_push, if_pos rfl]
      exact ⟨rfl, rfl, renvs_pv h.cells⟩
    | succ i => simp [names] at hb
  · rw [hget_push, if_neg (by omega)]

variable {nt k : Nat} {Q : Out} {l : List Item} {τ τ2 : Fr} {H H2 : Hp}

theorem go_opd {d : Tmp} {op : AOp} {g : Option (Option Tmp × Bool)} {chk : List Nat} {rest : List AOper} {v : Value}
    (hw : wantedL τ g = some true) (ho : opS (opdL τ) H op = some (v, H2)) (h : Go P nt k Q (.ops rest :: l) ((d, v) :: τ) H2) : Go P nt k Q (.ops (⟨some d, op, g, chk⟩ :: rest) :: l) τ H := go_op hw ho h
theorem go_opn {op : AOp} {g : Option (Option Tmp × Bool)} {chk : List Nat} {rest : List AOper} {v : Value}
    (hw : wantedL τ g = some true) (ho : opS (opdL τ) H op = some (v, H2)) (h : Go P nt k Q (.ops rest :: l) τ H2) : Go P nt k Q (.ops (⟨none, op, g, chk⟩ :: rest) :: l) τ H := go_op hw ho h
theorem go_missd {d : Tmp} {op : AOp} {g : Option (Option Tmp × Bool)} {chk : List Nat} {rest : List AOper}
    (hw : wantedL τ g = some false) (h : Go P nt k Q (.ops rest :: l) ((d, undef) :: τ) H) : Go P nt k Q (.ops (⟨some d, op, g, chk⟩ :: rest) :: l) τ H := go_miss hw h
theorem go_missn {op : AOp} {g : Option (Option Tmp × Bool)} {chk : List Nat} {rest : List AOper}
    (hw : wantedL τ g = some false) (h : Go P nt k Q (.ops rest :: l) τ H) : Go P nt k Q (.ops (⟨none, op, g, chk⟩ :: rest) :: l) τ H := go_miss hw h
theorem go_pure {d : Option Tmp} {op : AOp} {g : Option (Option Tmp × Bool)} {chk : List Nat} {rest : List AOper} {f : FuncId} {args : List Value} {v : Value}
    (hw : wantedL τ g = some true) (hc : calleeOf (opdL τ) H op = some (f, args)) (hs : Pur P f args v) (h : Go P nt k Q (.ops rest :: l) (putL τ d v) H) : Go P nt k Q (.ops (⟨d, op, g, chk⟩ :: rest) :: l) τ H := go_call hw hc (hs.any H) h
theorem go_meth {d : Option Tmp} {op : AOp} {g : Option (Option Tmp × Bool)} {chk : List Nat} {rest : List AOper} {f : FuncId} {args : List Value} {v : Value} {b : Nat} {o o' : AObj}
    (hw : wantedL τ g = some true) (hc : calleeOf (opdL τ) H op = some (f, .pointer (some ⟨b, 0, none⟩) :: args)) (hb : hget H b = some o) (hs : Meth P f args o v o') (hH : hput H b o' = H2) (h : Go P nt k Q (.ops rest :: l) (putL τ d v) H2) : Go P nt k Q (.ops (⟨d, op, g, chk⟩ :: rest) :: l) τ H := by
  subst hH; exact go_call hw hc (hs.any hb) h
theorem go_fresh {d : Option Tmp} {op : AOp} {g : Option (Option Tmp × Bool)} {chk : List Nat} {rest : List AOper} {f : FuncId} {args : List Value} {n : Nat} {o : AObj} {v : Value}
    (hw : wantedL τ g = some true) (hc : calleeOf (opdL τ) H op = some (f, args)) (hs : Fresh P f args n o) (hv : Value.slice (some ⟨H.length, 0, none⟩) n 1 = v) (hH : hpush H o = H2) (h : Go P nt k Q (.ops rest :: l) (putL τ d v) H2) : Go P nt k Q (.ops (⟨d, op, g, chk⟩ :: rest) :: l) τ H := by
  subst hv; subst hH; exact go_call hw hc (hs.any H) h

theorem go_opd_g {d : Tmp} {op : AOp} {t : Tmp} {want b : Bool} {chk : List Nat} {rest : List AOper} {v : Value}
    (hw : wantedL τ (some (some t, want)) = some b) (hb : b = true) (ho : opS (opdL τ) H op = some (v, H2)) (h : Go P nt k Q (.ops rest :: l) ((d, v) :: τ) H2) : Go P nt k Q (.ops (⟨some d, op, some (some t, want), chk⟩ :: rest) :: l) τ H := by
  subst hb; exact go_op hw ho h
theorem go_opn_g {op : AOp} {t : Tmp} {want b : Bool} {chk : List Nat} {rest : List AOper} {v : Value}
    (hw : wantedL τ (some (some t, want)) = some b) (hb : b = true) (ho : opS (opdL τ) H op = some (v, H2)) (h : Go P nt k Q (.ops rest :: l) τ H2) : Go P nt k Q (.ops (⟨none, op, some (some t, want), chk⟩ :: rest) :: l) τ H := by
  subst hb; exact go_op hw ho h
theorem go_missd_g {d : Tmp} {op : AOp} {t : Tmp} {want b : Bool} {chk : List Nat} {rest : List AOper}
    (hw : wantedL τ (some (some t, want)) = some b) (hb : b = false) (h : Go P nt k Q (.ops rest :: l) ((d, undef) :: τ) H) : Go P nt k Q (.ops (⟨some d, op, some (some t, want), chk⟩ :: rest) :: l) τ H := by
  subst hb; exact go_miss hw h
theorem go_missn_g {op : AOp} {t : Tmp} {want b : Bool} {chk : List Nat} {rest : List AOper}
    (hw : wantedL τ (some (some t, want)) = some b) (hb : b = false) (h : Go P nt k Q (.ops rest :: l) τ H) : Go P nt k Q (.ops (⟨none, op, some (some t, want), chk⟩ :: rest) :: l) τ H := by
  subst hb; exact go_miss hw h
theorem go_true_g {o : Operand} {x y : ACode} {t : Bool} (ho : opdL τ o = .bool t) (ht : t = true) (h : Go P nt k Q (.code x :: l) τ H) : Go P nt k Q (.code (.cond o x y) :: l) τ H := by
  subst ht; exact go_true ho h
theorem go_false_g {o : Operand} {x y : ACode} {t : Bool} (ho : opdL τ o = .bool t) (ht : t = false) (h : Go P nt k Q (.code y :: l) τ H) : Go P nt k Q (.code (.cond o x y) :: l) τ H := by
  subst ht; exact go_false ho h
theorem go_pure_g {d : Option Tmp} {op : AOp} {g : Option (Option Tmp × Bool)} {b : Bool} {chk : List Nat} {rest : List AOper} {f : FuncId} {args : List Value} {v : Value}
    (hw : wantedL τ g = some b) (hb : b = true) (hc : calleeOf (opdL τ) H op = some (f, args)) (hs : Pur P f args v) (h : Go P nt k Q (.ops rest :: l) (putL τ d v) H) : Go P nt k Q (.ops (⟨d, op, g, chk⟩ :: rest) :: l) τ H := by
  subst hb; exact go_pure hw hc hs h

/-! ### What to rewrite by -/

theorem lk_nil (t : Nat) : lk [] t = top := rfl
theorem lk_cons (s : Nat) (v : Value) (r : Fr) (t : Nat) : lk ((s, v) :: r) t = if t = s then v else lk r t := by
  simp only [lk]
  by_cases h : t = s
  · subst h; simp
  · rw [beqF h, if_neg h]; rfl
theorem lo_tmp (t : Nat) : opdL τ (.tmp t) = lk τ t := rfl
theorem lo_const (v : Value) : opdL τ (.const v) = v := rfl
theorem lo_func (f : FuncId) : opdL τ (.func f) = .func (.func f) #[] #[] := rfl
theorem hget_z (o : Option AObj) (r : Hp) : hget (o :: r) 0 = o := by cases o <;> rfl
theorem hget_s (o : Option AObj) (r : Hp) (n : Nat) : hget (o :: r) (n + 1) = hget r n := by simp [hget]
theorem hput_z (o : Option AObj) (r : Hp) (x : AObj) : hput (o :: r) 0 x = some x :: r := rfl
theorem hput_s (o : Option AObj) (r : Hp) (n : Nat) (x : AObj) : hput (o :: r) (n + 1) x = o :: hput r n x := rfl
theorem hkill_z (o : Option AObj) (r : Hp) : hkill (o :: r) 0 = none :: r := rfl
theorem hkill_s (o : Option AObj) (r : Hp) (n : Nat) : hkill (o :: r) (n + 1) = o :: hkill r n := rfl
theorem hpush_z (x : AObj) : hpush [] x = [some x] := rfl
theorem hpush_s (o : Option AObj) (r : Hp) (x : AObj) : hpush (o :: r) x = o :: hpush r x := rfl
theorem setAt_n (l : List Value) (n : Nat) : setAt l n [] = l := by simp [setAt]
theorem setAt_s (a : Value) (l cs : List Value) (n : Nat) : setAt (a :: l) (n + 1) cs = a :: setAt l n cs := by
  simp [setAt, Nat.add_right_comm n 1]
theorem setAt_z (a c : Value) (l cs : List Value) : setAt (a :: l) 0 (c :: cs) = c :: setAt l 0 cs := by simp [setAt]
theorem nbeq (a b : Nat) : Nat.beq a b = decide (a = b) := by
  by_cases h : a = b
  · subst h; simp
  · rw [beqF h]; simp [h]
theorem nble (a b : Nat) : Nat.ble a b = decide (a ≤ b) := by
  by_cases h : a ≤ b
  · rw [Nat.ble_eq_true_of_le h]; simp [h]
  · cases hb : Nat.ble a b with
    | true => exact absurd (Nat.le_of_ble_eq_true hb) h
    | false => simp [h]

section
variable (ρ : Operand → Value)
theorem S_mv (x : Operand) : opS ρ H (.mv x) = some (ρ x, H) := rfl
theorem S_pick (c a b : Operand) : opS ρ H (.pick c a b) = match ρ c with | .bool true => some (ρ a, H) | .bool false => some (ρ b, H) | _ => none := by
  simp only [opS, op1]; generalize ρ c = x; rcases x with (_ | _) | _ | _ | _ | _ | _ | _ | _ | _ | _ | _ | _ | _ | _ | _ <;> rfl
theorem S_build (zc : List Value) (parts : List (Nat × Nat × Operand)) : opS ρ H (.build zc parts) = match fillL zc (parts.map fun p => (p.1, p.2.1, ρ p.2.2)) with | some cs => some (.agg cs.toArray, H) | none => none := by
  simp only [opS, op1]; cases fillL zc (parts.map fun p => (p.1, p.2.1, ρ p.2.2)) <;> rfl
theorem S_bin (op : BinOp) (ek : EK) (x y : Operand) : opS ρ H (.bin op ek x y) = match binA op ek (ρ x) (ρ y) with | some v => some (v, H) | none => none := by
  simp only [opS, op1]; cases binA op ek (ρ x) (ρ y) <;> rfl
theorem S_un (op : UnOp) (x : Operand) : opS ρ H (.un op x) = match unA op (ρ x) with | some v => some (v, H) | none => none := by
  simp only [opS, op1]; cases unA op (ρ x) <;> rfl
theorem S_conv (kd : IntKind) (x : Operand) : opS ρ H (.conv kd x) = match ρ x with | .int _ n => some (.int kd (kd.wrap n), H) | _ => none := by
  simp only [opS, op1]; cases ρ x <;> rfl
theorem S_strMv (x : Operand) : opS ρ H (.strMv x) = match ρ x with | .string s => some (.string s, H) | _ => none := by
  simp only [opS, op1]; cases ρ x <;> rfl
theorem S_mkI (t : TypeId) (x : Operand) : opS ρ H (.mkI t x) = some (.iface t (ρ x), H) := rfl
theorem S_mkF (f : FuncId) (a b : List Operand) : opS ρ H (.mkF f a b) = some (.func (.func f) (a.map ρ).toArray (b.map ρ).toArray, H) := rfl
theorem S_fieldAddr (off : Nat) (x : Operand) : opS ρ H (.fieldAddr off x) = match ρ x with
    | .pointer (some a) => some (.pointer (some ⟨a.block, a.off + off, none⟩), H)
    | .func (.methodOf _ _) xs _ => some (bvP (xs.toList.drop off), H)
    | _ => none := by
  simp only [opS, op1]; generalize ρ x = v
  cases v with
  | pointer a => cases a <;> rfl
  | func fn a b => cases fn <;> rfl
  | _ => rfl
theorem S_field (off : Nat) (sz : Option Nat) (x : Operand) : opS ρ H (.field off sz x) = match ρ x with | .agg cs => (match partA sz cs.toList off with | some v => some (v, H) | none => none) | _ => none := by
  simp only [opS, op1]; cases ρ x <;> first | rfl | (rename_i cs; cases h : partA sz cs.toList off <;> simp only [h])
theorem S_idxAddr_s {sz : Nat} {x i : Operand} {a : Addr} {n c : Nat} {kd : IntKind} {j : Int} (hx : ρ x = .slice (some a) n c) (hi : ρ i = .int kd j) (hj : 0 ≤ j ∧ j < (n : Int)) : opS ρ H (.idxAddr none sz x i) = some (.pointer (some ⟨a.block, a.off + j.toNat * sz, none⟩), H) := by
  simp only [opS, op1, hx, hi]
  rw [if_pos hj]
theorem S_idxAddr_b {sz : Nat} {x i : Operand} {n : Nat} {xs ys : Array Value} {kd : IntKind} {j : Int} (hx : ρ x = .func (.yield n) xs ys) (hi : ρ i = .int kd j) (hj : 0 ≤ j ∧ j < (n : Int)) : opS ρ H (.idxAddr none sz x i) = some (bvP ((xs.toList.drop (j.toNat * sz)).take sz), H) := by
  simp only [opS, op1, hx, hi]
  rw [if_pos hj]
theorem S_idxAddr_p {m sz : Nat} {x i : Operand} {a : Addr} {kd : IntKind} {j : Int} (hx : ρ x = .pointer (some a)) (hi : ρ i = .int kd j) (hj : 0 ≤ j ∧ j < (m : Int)) : opS ρ H (.idxAddr (some m) sz x i) = some (.pointer (some ⟨a.block, a.off + j.toNat * sz, none⟩), H) := by
  simp only [opS, op1, hx, hi]
  rw [if_pos hj]
theorem S_idxAddr_q {m sz : Nat} {x i : Operand} {t : TypeId} {nm : String} {xs ys : Array Value} {kd : IntKind} {j : Int} (hx : ρ x = .func (.methodOf t nm) xs ys) (hi : ρ i = .int kd j) (hj : 0 ≤ j ∧ j < (m : Int)) : opS ρ H (.idxAddr (some m) sz x i) = some (bvP ((xs.toList.drop (j.toNat * sz)).take sz), H) := by
  simp only [opS, op1, hx, hi]
  rw [if_pos hj]
theorem S_idx {len sz : Nat} {o : Option Nat} {x i : Operand} {cs : Array Value} {kd : IntKind} {j : Int} {v : Value} (hx : ρ x = .agg cs) (hi : ρ i = .int kd j) (hj : 0 ≤ j ∧ j < (len : Int)) (hv : partA o cs.toList (j.toNat * sz) = some v) : opS ρ H (.idx len sz o x i) = some (v, H) := by
  simp only [opS, op1, hx, hi]
  rw [if_pos hj, hv]
theorem S_idxS {x i : Operand} {s : ByteArray} {kd : IntKind} {j : Int} {b : UInt8} (hx : ρ x = .string s) (hi : ρ i = .int kd j) (hj : 0 ≤ j) (hv : s.data.toList[j.toNat]? = some b) : opS ρ H (.idxS x i) = some (.int .u8 b.toNat, H) := by
  simp only [opS, op1, hx, hi]
  rw [if_pos hj, hv]
theorem S_ext (x : Operand) (i : Nat) : opS ρ H (.ext x i) = match ρ x with | .tuple vs => (match vs.toList[i]? with | some v => some (v, H) | none => none) | _ => none := by
  simp only [opS, op1]; cases ρ x <;> first | rfl | (rename_i vs; cases h : vs.toList[i]? <;> simp only [h])
theorem S_nilCheck_p {x : Operand} {a : Addr} (hx : ρ x = .pointer (some a)) : opS ρ H (.nilCheck x) = some (.pointer (some a), H) := by simp only [opS, op1, hx]
theorem S_nilCheck_q {x : Operand} {t : TypeId} {nm : String} {xs ys : Array Value} (hx : ρ x = .func (.methodOf t nm) xs ys) : opS ρ H (.nilCheck x) = some (bvP xs.toList, H) := by simp only [opS, op1, hx]
theorem S_nilCheck_f {x : Operand} {f : FuncId} {xs ys : Array Value} (hx : ρ x = .func (.func f) xs ys) : opS ρ H (.nilCheck x) = some (.func (.func f) xs ys, H) := by simp only [opS, op1, hx]
theorem S_nilCheck_i {x : Operand} {t : TypeId} {v : Value} (hx : ρ x = .iface t v) : opS ρ H (.nilCheck x) = some (.iface t v, H) := by simp only [opS, op1, hx]
theorem S_len_s {x : Operand} {s : ByteArray} (hx : ρ x = .string s) : opS ρ H (.lenO true x) = some (.int .i64 s.size, H) := by simp only [opS, op1, hx]
theorem S_len_l {x : Operand} {a : Option Addr} {n c : Nat} (hx : ρ x = .slice a n c) : opS ρ H (.lenO false x) = some (.int .i64 n, H) := by simp only [opS, op1, hx]
theorem S_len_b {x : Operand} {n : Nat} {xs ys : Array Value} (hx : ρ x = .func (.yield n) xs ys) : opS ρ H (.lenO false x) = some (.int .i64 n, H) := by simp only [opS, op1, hx]
theorem S_len (x : Operand) : opS ρ H (.lenO false x) = match ρ x with | .slice _ n _ => some (.int .i64 n, H) | .func (.yield n) _ _ => some (.int .i64 n, H) | _ => none := by
  simp only [opS, op1]; generalize ρ x = v
  cases v with
  | func fn a b => cases fn <;> rfl
  | _ => rfl
theorem S_lenS (x : Operand) : opS ρ H (.lenO true x) = match ρ x with | .string s => some (.int .i64 s.size, H) | _ => none := by
  simp only [opS, op1]; cases ρ x <;> rfl
theorem S_nilCheck (x : Operand) : opS ρ H (.nilCheck x) = match ρ x with
    | .pointer (some a) => some (.pointer (some a), H)
    | .func (.methodOf _ _) xs _ => some (bvP xs.toList, H)
    | .func (.func f) a b => some (.func (.func f) a b, H)
    | .iface t v => some (.iface t v, H)
    | _ => none := by
  simp only [opS, op1]; generalize ρ x = v
  cases v with
  | pointer a => cases a <;> rfl
  | func fn a b => cases fn <;> rfl
  | _ => rfl
theorem S_lenC (n : Nat) : opS ρ H (.lenC n) = some (.int .i64 n, H) := rfl
theorem S_minmax2 {b : Bool} {x y : Operand} {k : IntKind} {m n : Int} (hx : ρ x = .int k m) (hy : ρ y = .int k n) : opS ρ H (.minmax b [x, y]) = some (.int k (if b then max m n else min m n), H) := by
  simp only [opS, op1, List.map_cons, List.map_nil, hx, hy, minmaxA, if_true]
  cases b
  · simp only [Bool.false_eq_true, if_false, Int.min_def]
    split <;> split <;> first | rfl | omega | (congr 3; omega)
  · simp only [if_true, Int.max_def]
    split <;> split <;> first | rfl | omega | (congr 3; omega)
theorem S_max2 {x y : Operand} {k : IntKind} {m n : Int} (hx : ρ x = .int k m) (hy : ρ y = .int k n) : opS ρ H (.minmax true [x, y]) = some (.int k (max m n), H) := S_minmax2 ρ hx hy
theorem S_min2 {x y : Operand} {k : IntKind} {m n : Int} (hx : ρ x = .int k m) (hy : ρ y = .int k n) : opS ρ H (.minmax false [x, y]) = some (.int k (min m n), H) := S_minmax2 ρ hx hy
theorem S_slcS {x : Operand} {lo hi : Option Operand} {s : ByteArray} {h l : Nat} (hx : ρ x = .string s) (hh : boundHi (hi.map ρ) s.size = some h) (hl : boundLo (lo.map ρ) h = some l) : opS ρ H (.slcS x lo hi) = some (.string (s.extract l h), H) := by simp only [opS, op1, hx, hh, hl]
theorem S_slc_b {sz : Nat} {x : Operand} {lo hi : Option Operand} {n : Nat} {xs ys : Array Value} {h l : Nat} (hx : ρ x = .func (.yield n) xs ys) (hh : boundHi (hi.map ρ) n = some h) (hl : boundLo (lo.map ρ) h = some l) :
    opS ρ H (.slc sz x lo hi) = some (bvS (h - l) ((xs.toList.drop (l * sz)).take ((h - l) * sz)), H) := by simp only [opS, op1, hx, hh, hl]
theorem S_slc_n {sz : Nat} {x : Operand} {lo hi : Option Operand} {a b : Nat} {h l : Nat} (hx : ρ x = .slice none a b) (hh : boundHi (hi.map ρ) 0 = some h) (hl : boundLo (lo.map ρ) h = some l) :
    opS ρ H (.slc sz x lo hi) = some (.slice none 0 0, H) := by simp only [opS, op1, hx, hh, hl]
theorem S_slc_s {sz : Nat} {x : Operand} {lo hi : Option Operand} {a : Addr} {n fl : Nat} {h l : Nat} (hx : ρ x = .slice (some a) n fl) (hh : boundHi (hi.map ρ) n = some h) (hl : boundLo (lo.map ρ) h = some l) :
    opS ρ H (.slc sz x lo hi) = some (.slice (some ⟨a.block, a.off + l * sz, none⟩) (h - l) (cond (Nat.beq l 0) fl 0), H) := by simp only [opS, op1, hx, hh, hl]
theorem S_slcA_p {m sz : Nat} {x : Operand} {lo hi : Option Operand} {a : Addr} {h l : Nat} (hx : ρ x = .pointer (some a)) (hh : boundHi (hi.map ρ) m = some h) (hl : boundLo (lo.map ρ) h = some l) :
    opS ρ H (.slcA m sz x lo hi) = some (.slice (some ⟨a.block, a.off + l * sz, none⟩) (h - l) 0, H) := by simp only [opS, op1, hx, hh, hl]
theorem S_slcA_q {m sz : Nat} {x : Operand} {lo hi : Option Operand} {t : TypeId} {nm : String} {xs ys : Array Value} {h l : Nat} (hx : ρ x = .func (.methodOf t nm) xs ys) (hh : boundHi (hi.map ρ) m = some h) (hl : boundLo (lo.map ρ) h = some l) :
    opS ρ H (.slcA m sz x lo hi) = some (bvS (h - l) ((xs.toList.drop (l * sz)).take ((h - l) * sz)), H) := by simp only [opS, op1, hx, hh, hl]
theorem S_alloc (e : TypeId) (zc : List Value) : opS ρ H (.alloc e zc) = some (.pointer (some ⟨H.length, 0, none⟩), hpush H ⟨zc, e, true⟩) := rfl
theorem S_box (e : TypeId) (x : Operand) : opS ρ H (.box e x) = cond (storable (ρ x)) (some (.pointer (some ⟨H.length, 0, none⟩), hpush H ⟨(ρ x).cells.toList, e, true⟩)) none := rfl
theorem S_load (sz : Option Nat) (x : Operand) : opS ρ H (.load sz x) = match ρ x with
    | .pointer (some a) => (match readH H sz a with | some v => some (v, H) | none => none)
    | .func (.methodOf _ _) xs _ => (match partA sz xs.toList 0 with | some v => some (v, H) | none => none)
    | _ => none := rfl
theorem S_store (sz : Nat) (x v : Operand) : opS ρ H (.store sz x v) = match ρ x with
    | .pointer (some a) => (match hget H a.block with
      | some o => cond (o.own && storable (ρ v) && Nat.beq (ρ v).cells.size sz && Nat.ble (a.off + sz) o.cells.length)
          (some (undef, hput H a.block ⟨setAt o.cells a.off (ρ v).cells.toList, o.elem, true⟩)) none
      | none => none)
    | _ => none := rfl
theorem S_buildSlice (e : TypeId) (zc : List Value) (len : Nat) (parts : List (Nat × Nat × Operand)) : opS ρ H (.buildSlice e zc len parts) = match fillL zc (parts.map fun p => (p.1, p.2.1, ρ p.2.2)) with
    | some cs => some (.slice (some ⟨H.length, 0, none⟩) len 1, hpush H ⟨cs, e, true⟩) | none => none := rfl
theorem S_make {e : TypeId} {zc : List Value} {bytes : Nat} {l c : Operand} {k : IntKind} {n : Nat} (hl : ρ l = .int k n) (hc : ρ c = .int k n) (h1 : n * bytes ≤ 140737488355328) (h2 : n ≤ 140737488355328) :
    opS ρ H (.makeSlice e zc bytes l c) = some (.slice (some ⟨H.length, 0, none⟩) n 1, hpush H ⟨(List.replicate n zc).flatten, e, true⟩) := by
  simp only [opS, hl, hc]
  have e1 : decide ((0 : Int) ≤ (n : Int)) = true := by simp
  have e2 : decide ((n : Int) ≤ (n : Int)) = true := by simp
  have e3 : decide (((n : Int) * (bytes : Int)) ≤ 140737488355328) = true := by
    rw [decide_eq_true_eq, ← Int.natCast_mul]
    omega
  have e4 : decide ((n : Int) ≤ 140737488355328) = true := by rw [decide_eq_true_eq]; omega
  rw [e1, e2, e3, e4]
  rfl
/-- append to nil -/
theorem S_app_n {e : TypeId} {sz bytes : Nat} {s x : Operand} {n : Nat} {new : List Value} (hs : ρ s = .slice none 0 0) (hx : appCellsH H sz (ρ x) = some (n, new)) (hn : n ≠ 0) (h1 : n * bytes ≤ 140737488355328) (h2 : n ≤ 140737488355328) :
    opS ρ H (.append e sz bytes s x) = some (.slice (some ⟨H.length, 0, none⟩) n 1, hpush H ⟨new, e, true⟩) := by
  simp only [opS, appendH, hx, hs]
  rw [beqF hn, Nat.ble_eq_true_of_le h1, Nat.ble_eq_true_of_le h2]
  rfl
/-- append to an owned slice -/
theorem S_app_o {e : TypeId} {sz bytes : Nat} {s x : Operand} {b l n : Nat} {cells new : List Value} (hs : ρ s = .slice (some ⟨b, 0, none⟩) l 1) (hx : appCellsH H sz (ρ x) = some (n, new)) (hb : hget H b = some ⟨cells, e, true⟩) (hn : n ≠ 0) (hsz : 0 < sz)
    (hl : cells.length = l * sz) (h1 : (l + n) * bytes ≤ 140737488355328) (h2 : l + n ≤ 140737488355328) :
    opS ρ H (.append e sz bytes s x) = some (.slice (some ⟨H.length, 0, none⟩) (l + n) 1, hpush (hkill H b) ⟨cells ++ new, e, true⟩) := by
  simp only [opS, appendH, hx, hs, hb]
  rw [beqF hn, Nat.ble_eq_true_of_le h1, Nat.ble_eq_true_of_le h2, Nat.ble_eq_true_of_le (show l * sz ≤ cells.length by omega)]
  have h3 : ¬ ((l + n) * sz ≤ cells.length) := by
    rw [hl, Nat.add_mul]
    have : 0 < n * sz := Nat.mul_pos (by omega) hsz
    omega
  have h4 : Nat.ble ((l + n) * sz) cells.length = false := by
    cases hh : Nat.ble ((l + n) * sz) cells.length with
    | false => rfl
    | true => exact absurd (Nat.le_of_ble_eq_true hh) h3
  rw [h4, List.take_of_length_le (by omega)]
  simp
end

/-! ### Arithmetic -/
section
variable (ek : EK) (k : IntKind) (a b : Int)
theorem b_add : binA .add ek (.int k a) (.int k b) = some (.int k (k.wrap (a + b))) := by simp [binA, intBin]
theorem b_sub : binA .sub ek (.int k a) (.int k b) = some (.int k (k.wrap (a - b))) := by simp [binA, intBin]
theorem b_mul : binA .mul ek (.int k a) (.int k b) = some (.int k (k.wrap (a * b))) := by simp [binA, intBin]
theorem b_quo (h : b ≠ 0) : binA .quo ek (.int k a) (.int k b) = some (.int k (k.wrap (a.tdiv b))) := by simp [binA, intBin, h]
theorem b_rem (h : b ≠ 0) : binA .rem ek (.int k a) (.int k b) = some (.int k (a.tmod b)) := by simp [binA, intBin, h]
theorem b_eql : binA .eql ek (.int k a) (.int k b) = some (.bool (a == b)) := by simp [binA, intBin]
theorem b_neq : binA .neq ek (.int k a) (.int k b) = some (.bool (a != b)) := by simp [binA, intBin]
theorem b_lss : binA .lss ek (.int k a) (.int k b) = some (.bool (decide (a < b))) := by simp [binA, intBin]
theorem b_leq : binA .leq ek (.int k a) (.int k b) = some (.bool (decide (a ≤ b))) := by simp [binA, intBin]
theorem b_gtr : binA .gtr ek (.int k a) (.int k b) = some (.bool (decide (a > b))) := by simp [binA, intBin]
theorem b_geq : binA .geq ek (.int k a) (.int k b) = some (.bool (decide (a ≥ b))) := by simp [binA, intBin]
theorem b_and : binA .and ek (.int k a) (.int k b) = some (.int k (k.wrap (BitVec.ofInt k.bits a &&& BitVec.ofInt k.bits b).toNat)) := by simp [binA, intBin]
theorem b_or : binA .or ek (.int k a) (.int k b) = some (.int k (k.wrap (BitVec.ofInt k.bits a ||| BitVec.ofInt k.bits b).toNat)) := by simp [binA, intBin]
theorem b_shl (l : IntKind) (h : 0 ≤ b) : binA .shl ek (.int k a) (.int l b) = some (.int k (k.wrap (a * 2 ^ (min b.toNat k.bits)))) := by simp only [binA, shiftBin]; rw [if_neg (by omega)]
theorem b_shr (l : IntKind) (h : 0 ≤ b) : binA .shr ek (.int k a) (.int l b) = some (.int k (a.fdiv (2 ^ (min b.toNat k.bits)))) := by simp only [binA, shiftBin]; rw [if_neg (by omega)]
theorem b_beql (a b : Bool) : binA .eql .bool (.bool a) (.bool b) = some (.bool (a == b)) := rfl
theorem b_bneq (a b : Bool) : binA .neq .bool (.bool a) (.bool b) = some (.bool (!(a == b))) := rfl
theorem b_seql (a b : ByteArray) : binA .eql ek (.string a) (.string b) = some (.bool (a.toList == b.toList)) := rfl
theorem b_sneq (a b : ByteArray) : binA .neq ek (.string a) (.string b) = some (.bool (!(a.toList == b.toList))) := rfl
theorem u_neg : unA .neg (.int k a) = some (.int k (k.wrap (0 - a))) := rfl
theorem u_not (a : Bool) : unA .not (.bool a) = some (.bool (!a)) := rfl
end
theorem w_none : wantedL τ none = some true := rfl
theorem w_some (t : Tmp) (want : Bool) : wantedL τ (some (some t, want)) = match lk τ t with | .bool b => some (b == want) | .chan _ => none | _ => some false := rfl

theorem c_call (f : FuncId) (args : List Operand) : calleeOf (opdL τ) H (.call (.func f) args) = some (f, args.map (opdL τ)) := by
  simp [calleeOf, opdL]
theorem c_callv {x : Operand} {g : FuncId} {a b : Array Value} (args : List Operand) (h : opdL τ x = .func (.func g) a b) : calleeOf (opdL τ) H (.call x args) = some (g, a.toList ++ (args.map (opdL τ) ++ b.toList)) := by
  simp only [calleeOf, h]

theorem wrap64 {n : Int} (h1 : -9223372036854775808 ≤ n) (h2 : n ≤ 9223372036854775807) : IntKind.wrap .i64 n = n := by
  unfold IntKind.wrap
  simp only [IntKind.bits, IntKind.signed]
  by_cases h : 0 ≤ n
  · have : n % 2 ^ 64 = n := Int.emod_eq_of_lt h (by omega)
    simp [this]; omega
  · have : n % 2 ^ 64 = n + 2 ^ 64 := by omega
    simp [this]; omega
theorem wrapU64 {n : Int} (h1 : 0 ≤ n) (h2 : n ≤ 18446744073709551615) : IntKind.wrap .u64 n = n := by
  unfold IntKind.wrap
  have : n % 2 ^ 64 = n := Int.emod_eq_of_lt h1 (by omega)
  simp [IntKind.bits, IntKind.signed] at *
  omega
theorem wrapU64_mod (n : Int) : IntKind.wrap .u64 n = n % 18446744073709551616 := by
  unfold IntKind.wrap
  simp [IntKind.bits, IntKind.signed]


theorem bq1 : (true == true) = true := rfl
theorem bq2 : (true == false) = false := rfl
theorem bq3 : (false == true) = false := rfl
theorem bq4 : (false == false) = true := rfl

set_option linter.defProp false in
/-- All of these. -/
def SA := And.intro @lk_nil (And.intro @lk_cons (And.intro @lo_tmp (And.intro @lo_const (And.intro @lo_func (And.intro @hget_z (And.intro @hget_s (And.intro @hput_z (And.intro @hput_s (And.intro @hkill_z (And.intro @hkill_s (And.intro @hpush_z (And.intro @hpush_s
  (And.intro @setAt_n (And.intro @setAt_s (And.intro @setAt_z (And.intro @nbeq (And.intro @nble (And.intro @S_mv (And.intro @S_pick (And.intro @S_build (And.intro @S_bin (And.intro @S_un (And.intro @S_conv (And.intro @S_strMv (And.intro @S_mkI (And.intro @S_mkF
  (And.intro @S_fieldAddr (And.intro @S_field (And.intro @S_ext (And.intro @S_nilCheck (And.intro @S_len (And.intro @S_lenS (And.intro @S_lenC (And.intro @S_alloc (And.intro @S_box (And.intro @S_load (And.intro @S_store (And.intro @S_buildSlice
  (And.intro @b_add (And.intro @b_sub (And.intro @b_mul (And.intro @b_eql (And.intro @b_neq (And.intro @b_lss (And.intro @b_leq (And.intro @b_gtr (And.intro @b_geq (And.intro @b_beql (And.intro @b_bneq (And.intro @b_seql (And.intro @b_sneq (And.intro @u_neg (And.intro @u_not
  (And.intro @w_some (And.intro bq1 (And.intro bq2 (And.intro bq3 (And.intro bq4 @c_call))))))))))))))))))))))))))))))))))))))))))))))))))))))))))

end Go.Bx

namespace Go.Bx
variable {P : Program} {H : Hp}

def Ends (F : AFunc) (J : Value → Hp → Prop) : Out := fun e τ H => match e with
  | .exit _ => False
  | _ => ∃ vs, ressL τ H F.res = some vs ∧ J (packRes vs) H

/-- A function, by what holds of its result and of the heap behind it. -/
theorem ends_calls {f : FuncId} {F : AFunc} (hF : compF P f = some F) {args : List Value} {J : Value → Hp → Prop} (h : ∀ nt, Go P nt H.length (Ends F J) [.code F.code] (argsF 0 args) H) :
    (∃ fn, P.funcs[f]? = some fn) ∧ ∀ σ, Rp σ H → ∀ φ w args', R P φ σ w → VsRel φ args args' →
      CallsE P f args'.toArray w fun e w' => ∃ v H' φ' v' σ', J v H' ∧ Rp σ' H' ∧ e = .returned v' ∧ VRel φ' v v' ∧ Post P φ σ w φ' σ' w' := by
  obtain ⟨fn, c, hf, hb, hn, hc, hr⟩ := compF_spec hF
  refine ⟨⟨fn, hf⟩, fun σ hσ φ w args' hR hargs => .inl ⟨⟨fn, c, hf, hb, hn⟩, ?_⟩⟩
  refine calls_of_wp hf hb ?_
  have ht := args_rel hargs fn.ntmps
  have hat : At P fn.ntmps H.length ⟨φ, σ, w⟩ (argsF 0 args) H { tmps := args'.toArray ++ Array.replicate (fn.ntmps - args'.toArray.size) undef, defers := [] } w := by
    refine ⟨hR, ⟨φ, σ, hσ, .refl hR, fun t => ?_⟩, by simp; omega, hσ.size⟩
    have := ht t
    rw [ofArgs_at] at this
    rw [argsF_lk]
    split
    · rename_i hc; rw [if_pos hc] at this; exact this
    · exact .top _
  refine h fn.ntmps c hc _ _ _ hat _ ?_
  intro e τ' H' a' w' hK ha' hd
  have hfin : ∀ e, (e = .normal ∨ e = .ret) → Fin P H.length (Ends F J e) τ' H' → bodyPost P fn (fun e w' => ∃ v H' φ' v' σ', J v H' ∧ Rp σ' H' ∧ e = .returned v' ∧ VRel φ' v v' ∧ Post P φ σ w φ' σ' w') e.to a' w' := by
    rintro e he ⟨τ2, H3, hw, hret⟩
    obtain ⟨φ1, σ1, hr1, hp1, ht1⟩ := hw _ _ _ ha'.k ha'.beg ha'.out
    have hret' : ∃ vs, ressL τ2 H3 F.res = some vs ∧ J (packRes vs) H3 := by rcases he with rfl | rfl <;> exact hret
    obtain ⟨vs, hvs, hJ⟩ := hret'
    obtain ⟨vs', hrel, hrun⟩ := resAll_sound hp1.rel ht1.toT fn.results.toList F.res vs hr (by rw [ressL_eq hr1]; exact hvs)
    have hrr := run_results (P := P) fn a'.tmps vs' w' hrun
    have : bodyPost P fn (fun e w' => ∃ v H' φ' v' σ', J v H' ∧ Rp σ' H' ∧ e = .returned v' ∧ VRel φ' v v' ∧ Post P φ σ w φ' σ' w') .normal a' w' := ⟨hd, _, hrr, _, _, φ1, _, σ1, hJ, hr1, rfl, pack_rel hrel, hp1⟩
    rcases he with rfl | rfl <;> exact this
  cases e with
  | normal => exact hfin .normal (.inl rfl) hK
  | ret => exact hfin .ret (.inr rfl) hK
  | exit i =>
    simp only [Co] at hK
    obtain ⟨_, _, _, h⟩ := hK
    exact h.elim

/-- A function of plain values with a plain result. -/
theorem pur_of_go {f : FuncId} {F : AFunc} (hF : compF P f = some F) {args : List Value} {v : Value} (ha : PVs args) (hv : PV v) (h : ∀ nt, Go P nt 0 (Ends F fun u _ => u = v) [.code F.code] (argsF 0 args) []) : Pur P f args v := by
  obtain ⟨h1, h2⟩ := ends_calls (H := []) hF h
  refine ⟨fun σ hσ => ⟨hp [], hp_rp [], h1, by rw [hσ.size, (hp_rp []).size]; exact Nat.le_refl _, fun φ w args' hR hargs => ?_⟩, ha, hv⟩
  refine (h2 σ hσ φ w args' hR hargs).mono ?_
  rintro e w' ⟨u, H', φ', v', σ', rfl, hr, rfl, hv', hp⟩
  exact ⟨res φ' 0, v', rfl, hv.bel 0 φ' v' hv', hp.low hR hr (by rw [hσ.size]; exact Nat.zero_le _) trivial⟩

/-- A method of a block. -/
theorem meth_of_go {f : FuncId} {F : AFunc} (hF : compF P f = some F) {args : List Value} {v : Value} {o o' : AObj} (ha : PVs args) (hv : PV v) (ho : PVs o.cells) (ho' : PVs o'.cells)
    (h : ∀ nt, Go P nt 1 (Ends F fun u H => u = v ∧ hget H 0 = some o') [.code F.code] (argsF 0 (.pointer (some ⟨0, 0, none⟩) :: args)) [some o]) : Meth P f args o v o' := by
  obtain ⟨h1, h2⟩ := ends_calls (H := [some o]) hF h
  refine ⟨fun σ hσ => ⟨hp [some o'], hp_rp _, h1, by rw [hσ.size, (hp_rp [some o']).size]; exact Nat.le_refl _, fun φ w args' hR hargs => ?_⟩, ha, hv, ho, ho'⟩
  refine (h2 σ hσ φ w args' hR hargs).mono ?_
  rintro e w' ⟨u, H', φ', v', σ', ⟨rfl, hg⟩, hr, rfl, hv', hp⟩
  have ht : H'.take 1 = [some o'] := by
    cases H' with
    | nil => simp [hget] at hg
    | cons x r => rw [hget_z] at hg; subst hg; simp
  refine ⟨res φ' 1, v', rfl, hv.bel 1 φ' v' hv', ?_⟩
  have := hp.low hR hr (j := 1) (by rw [hσ.size]; exact Nat.le_refl _) (by rw [ht]; exact ⟨fun x hx => (ho' x hx).bel 1, trivial⟩)
  rw [ht] at this
  exact this

/-- A function of plain values that makes a block and hands back a slice of it. -/
theorem fresh_of_go {f : FuncId} {F : AFunc} (hF : compF P f = some F) {args : List Value} {n : Nat} {o : AObj} (ha : PVs args) (ho : PVs o.cells)
    (h : ∀ nt, Go P nt 0 (Ends F fun u H => ∃ j, u = .slice (some ⟨j, 0, none⟩) n 1 ∧ hget H j = some o) [.code F.code] (argsF 0 args) []) : Fresh P f args n o := by
  obtain ⟨h1, h2⟩ := ends_calls (H := []) hF h
  refine ⟨fun σ hσ => ⟨hp [some o], hp_rp _, h1, by rw [hσ.size, (hp_rp [some o]).size]; exact Nat.zero_le _, fun φ w args' hR hargs => ?_⟩, ha, ho⟩
  refine (h2 σ hσ φ w args' hR hargs).mono ?_
  rintro e w' ⟨u, H', φ', v', σ', ⟨j, rfl, hg⟩, hr, rfl, hv', hp⟩
  let φ2 : Phi := ⟨fun i => if i = 0 then φ' j else .absent, φ'.fz⟩
  have hgo := (hp_rp [some o]).get
  have hsz : (Bx.hp [some o]).size = 1 := (hp_rp [some o]).size
  have hs0 : σ.size = 0 := hσ.size
  have hgj : σ'.get j = some o := by rw [hr.get]; exact hg
  have hlive : ∀ i b o' k, φ2 i = .live b o' k → i = 0 ∧ φ' j = .live b o' k := by
    intro i b o' k hi
    by_cases h0 : i = 0
    · simp only [φ2, h0, if_true] at hi; exact ⟨h0, hi⟩
    · simp only [φ2, h0, if_false] at hi; cases hi
  have hR2 : R P φ2 (Bx.hp [some o]) w' := by
    refine ⟨fun i hi => ?_, fun i p hi => ?_, fun i b o' k hi => ?_, fun i i2 b1 o1 k1 b2 o2 k2 ob a1 a2 a3 a4 a5 => ?_, hp.rel.froz, fun i b o' k ob a1 a2 a3 => ?_⟩
    · rw [hsz] at hi
      simp only [φ2, show i ≠ 0 by omega, if_false]
    · by_cases h0 : i = 0
      · simp only [φ2, h0, if_true] at hi
        have := hp.rel.dead j p hi
        rw [hgj] at this; cases this
      · simp only [φ2, h0, if_false] at hi; cases hi
    · obtain ⟨rfl, hi⟩ := hlive i b o' k hi
      obtain ⟨ob, c, et, fr, g1, g2, g3, g4⟩ := hp.rel.live j b o' k hi
      rw [hgj] at g1; cases g1
      refine ⟨o, c, et, fr, by rw [hgo]; rfl, g2, fun jj x hx => ?_, g4⟩
      obtain ⟨a1, x', a2, a3⟩ := g3 jj x hx
      exact ⟨a1, x', a2, FRel.toV (φ := φ2) (ho x (List.mem_of_getElem? hx) φ' x' a3)⟩
    · obtain ⟨e1, _⟩ := hlive _ _ _ _ a1
      obtain ⟨e2, _⟩ := hlive _ _ _ _ a2
      omega
    · obtain ⟨rfl, a1⟩ := hlive _ _ _ _ a1
      rw [hgo] at a2
      have : ob = o := (Option.some.inj a2).symm
      subst this
      exact hp.rel.nofz j b o' k ob a1 hgj a3
  refine ⟨φ2, v', rfl, ?_, ⟨by rw [hs0]; exact Nat.zero_le _, ⟨fun i hi => ?_, hp.le.fz⟩, fun i hi => by omega, hR2, fun b hb => ?_, fun i b o' k a1 a2 => ?_, hp.keep, hp.grow, hp.env, hp.fz⟩⟩
  · cases hv' with
    | slc h0 hc hf =>
      refine .slc (h0.imp id fun hA => ?_) hc (fun e => ?_)
      · unfold ARel at *; simpa [φ2] using hA
      · have := hf e
        unfold FlagRel at *; simpa [φ2] using this
  · have := hR.id_lt hi; omega
  · obtain ⟨i, o', k, ob, a1, a2, a3⟩ := hb
    obtain ⟨rfl, a1⟩ := hlive _ _ _ _ a1
    rw [hgo] at a2
    have : ob = o := (Option.some.inj a2).symm
    subst this
    exact hp.own b ⟨j, o', k, ob, a1, hgj, a3⟩
  · obtain ⟨rfl, a2⟩ := hlive _ _ _ _ a2
    have hb : Owned φ' σ' b ∨ (Owned φ σ b ∨ w.heap.size ≤ b) := by
      cases hs : φ j with
      | absent => exact .inr (hp.new j b o' k hs a2)
      | _ => have := hR.id_lt (i := j) (by rw [hs]; simp); omega
    rcases hb with hb | hb
    · exact hp.own b hb
    · exact hb

end Go.Bx

namespace Go.Bx
variable {P : Program}
variable {nt k kk : Nat} {Q : Out} {l : List Item} {τ : Fr} {H H2 : Hp} {hs : List (Nat × Hp × Hp)} {ids : List (Nat × List Nat)} {R : Fr → Hp → List (Nat × Hp × Hp) → List (Nat × List Nat) → Prop}

theorem chkL_nil {d : Option Tmp} {op : AOp} {g : Option (Option Tmp × Bool)} : chkL τ ⟨d, op, g, []⟩ = [] := by
  unfold chkL chkOf
  cases op <;> first | rfl | (dsimp only; split <;> rfl)

theorem d_opd {d : Tmp} {op : AOp} {rest : List AOper} {v : Value} (hi : isWriter op = false) (ho : opS (opdL τ) H op = some (v, H2)) (h : EvD P (kk + 1) rest ((d, v) :: τ) H2 hs ids R) : EvD P kk (⟨some d, op, none, []⟩ :: rest) τ H hs ids R := by
  refine d_op rfl ho (by rw [chkL_nil]; rfl) ?_
  rw [chkL_nil, hi]
  exact h
theorem d_opd_g {d : Tmp} {op : AOp} {t : Tmp} {want b : Bool} {rest : List AOper} {v : Value} (hi : isWriter op = false) (hw : wantedL τ (some (some t, want)) = some b) (hb : b = true) (ho : opS (opdL τ) H op = some (v, H2)) (h : EvD P (kk + 1) rest ((d, v) :: τ) H2 hs ids R) : EvD P kk (⟨some d, op, some (some t, want), []⟩ :: rest) τ H hs ids R := by
  subst hb
  refine d_op hw ho (by rw [chkL_nil]; rfl) ?_
  rw [chkL_nil, hi]
  exact h
theorem d_missd_g {d : Tmp} {op : AOp} {t : Tmp} {want b : Bool} {chk : List Nat} {rest : List AOper} (hw : wantedL τ (some (some t, want)) = some b) (hb : b = false) (h : EvD P (kk + 1) rest ((d, undef) :: τ) H hs ids R) : EvD P kk (⟨some d, op, some (some t, want), chk⟩ :: rest) τ H hs ids R := by
  subst hb; exact d_miss hw h
theorem d_missn_g {op : AOp} {t : Tmp} {want b : Bool} {chk : List Nat} {rest : List AOper} (hw : wantedL τ (some (some t, want)) = some b) (hb : b = false) (h : EvD P (kk + 1) rest τ H hs ids R) : EvD P kk (⟨none, op, some (some t, want), chk⟩ :: rest) τ H hs ids R := by
  subst hb; exact d_miss hw h
/-- A writer without a result: a store. -/
theorem d_opn {op : AOp} {rest : List AOper} {v : Value} (hi : isWriter op = true) (ho : opS (opdL τ) H op = some (v, H2)) (h : EvD P (kk + 1) rest τ H2 ((kk, H, H2) :: hs) ids R) : EvD P kk (⟨none, op, none, []⟩ :: rest) τ H hs ids R := by
  refine d_op rfl ho (by rw [chkL_nil]; rfl) ?_
  rw [chkL_nil, hi]
  exact h
/-- A writer with a result: append, copy. -/
theorem d_opw {d : Tmp} {op : AOp} {rest : List AOper} {v : Value} (hi : isWriter op = true) (ho : opS (opdL τ) H op = some (v, H2)) (h : EvD P (kk + 1) rest ((d, v) :: τ) H2 ((kk, H, H2) :: hs) ids R) : EvD P kk (⟨some d, op, none, []⟩ :: rest) τ H hs ids R := by
  refine d_op rfl ho (by rw [chkL_nil]; rfl) ?_
  rw [chkL_nil, hi]
  exact h
/-- A load that is checked. -/
theorem d_chk {d : Tmp} {op : AOp} {chk c : List Nat} {rest : List AOper} {v : Value} {b : Nat} (hi : isWriter op = false) (ho : opS (opdL τ) H op = some (v, H2)) (hc : chkL τ ⟨some d, op, none, chk⟩ = c) (hn : c.isEmpty = false) (hl : loadsAt (opdL τ) op = b) (hf : fineL c H b = true) (h : EvD P (kk + 1) rest ((d, v) :: τ) H2 hs ((b, c) :: ids) R) : EvD P kk (⟨some d, op, none, chk⟩ :: rest) τ H hs ids R := by
  subst hl
  refine d_op rfl ho (by rw [hc]; exact hf) ?_
  rw [hc, hi, hn]
  exact h
/-- A load of frozen values needs no check. -/
theorem d_chk0 {d : Tmp} {op : AOp} {chk : List Nat} {rest : List AOper} {v : Value} (hi : isWriter op = false) (ho : opS (opdL τ) H op = some (v, H2)) (hc : chkL τ ⟨some d, op, none, chk⟩ = []) (h : EvD P (kk + 1) rest ((d, v) :: τ) H2 hs ids R) : EvD P kk (⟨some d, op, none, chk⟩ :: rest) τ H hs ids R := by
  refine d_op rfl ho (by rw [hc]; rfl) ?_
  rw [hc, hi]
  exact h
theorem d_pure {d : Option Tmp} {op : AOp} {g : Option (Option Tmp × Bool)} {b : Bool} {rest : List AOper} {f : FuncId} {args : List Value} {v : Value} (hi : isWriter op = true)
    (hw : wantedL τ g = some b) (hb : b = true) (hc : calleeOf (opdL τ) H op = some (f, args)) (hs' : Pur P f args v) (h : EvD P (kk + 1) rest (putL τ d v) H ((kk, H, H) :: hs) ids R) : EvD P kk (⟨d, op, g, []⟩ :: rest) τ H hs ids R := by
  subst hb
  refine d_call hw hc (hs'.any H) (by rw [chkL_nil]; rfl) ?_
  rw [chkL_nil, hi]
  exact h
/-- A function that the model stands in for. -/
theorem pur_extern {f : FuncId} {fn : Func} {e : Array Value → Sem Value} (hf : P.funcs[f]? = some fn) (hname : (fn.name == "runtime.NumGoroutine") = false) (hb : fn.body.isNone = true) (hn : Extern.findNext fn = none) (he : Extern.find fn = some e)
    {args : List Value} {v : Value} (ha : PVs args) (hv : PV v) (hr : ∀ φ args' w, VsRel φ args args' → ∃ v', (e args'.toArray).run P w = .ok v' w ∧ VRel φ v v') : Pur P f args v := by
  refine ⟨fun σ hσ => ⟨σ, hσ, ⟨fn, hf⟩, Nat.le_refl _, fun φ w args' hR hargs => .inr ?_⟩, ha, hv⟩
  obtain ⟨v', h1, h2⟩ := hr φ args' w hargs
  refine ⟨v', ?_, φ, v', rfl, h2, .refl hR⟩
  rw [run_callFunc_extern hf hname hb hn he, h1]
  rfl

/-- math/bits.Add64. -/
theorem pur_add64 {f : FuncId} {fn : Func} (hf : P.funcs[f]? = some fn) (hname : (fn.name == "runtime.NumGoroutine") = false) (hb : fn.body.isNone = true) (hn : Extern.findNext fn = none) (he : Extern.find fn = some add64Entry)
    {x y c : Int} (hx : 0 ≤ x) (hy : 0 ≤ y) (hc0 : 0 ≤ c) (hc : c ≤ 1) : Pur P f [.int .u64 x, .int .u64 y, .int .u64 c] (.tuple #[.int .u64 ((x + y + c) % 18446744073709551616), .int .u64 ((x + y + c) / 18446744073709551616)]) := by
  refine pur_extern hf hname hb hn he (pvs_cons (pv_int _ _) (pvs_cons (pv_int _ _) (pvs_cons (pv_int _ _) pvs_nil))) (pv_tuple (pvs_cons (pv_int _ _) (pvs_cons (pv_int _ _) pvs_nil))) ?_
  rintro φ args' w h
  cases h with
  | cons h1 h =>
    cases h with
    | cons h2 h =>
      cases h with
      | cons h3 h =>
        cases h
        cases h1; cases h2; cases h3
        exact ⟨_, run_add64 x y c hx hy hc0 hc w, .tuple (.cons (.int _ _) (.cons (.int _ _) .nil))⟩
theorem bels_nil {j : Nat} : ∀ v ∈ ([] : List Value), Bel j v := fun v h => by cases h
theorem bels_cons {j : Nat} {u : Value} {l : List Value} (h : Bel j u) (hl : ∀ v ∈ l, Bel j v) : ∀ v ∈ u :: l, Bel j v := fun v hv => by
  rcases List.mem_cons.1 hv with rfl | hv
  · exact h
  · exact hl v hv
theorem wk_dropTo (j : Nat) (hk : k ≤ j) (he : H.take j = H2) (hτ : BelF j τ) (hH : BelH j H2) : Wk P k τ H τ H2 := by
  subst he; exact wk_drop j hk hτ hH
/-- What is not needed may be forgotten, and so may the newest blocks. -/
theorem wk_keep (j : Nat) (τ2 : Fr) (hk : k ≤ j) (hs : SubF τ2 τ) (he : H.take j = H2) (hτ : BelF j τ2) (hH : BelH j H2) : Wk P k τ H τ2 H2 :=
  (wk_forget hs).trans (wk_dropTo j hk he hτ hH)
/-- A loop that is left in its first turn. -/
theorem go_once {c : ACode} (h : Go P nt k Q (.code c :: .stop (fun _ _ => False) :: l) τ H) : Go P nt k Q (.code (.loop c) :: l) τ H := by
  refine go_loop (X := Unit) (fun _ τ' H' => τ' = τ ∧ H' = H) (fun _ => 0) () (.now ⟨rfl, rfl⟩) ?_
  rintro _ _ _ ⟨rfl, rfl⟩
  simp only [Nat.lt_irrefl, false_and, exists_false]
  exact h
end Go.Bx

namespace Go.Bx

theorem and_mask (x : Int) (j : Nat) (hj : j ≤ 63) (h0 : 0 ≤ x) (h : x ≤ 18446744073709551615) (m : Int) (hm : m = 2 ^ j - 1) :
    IntKind.wrap .u64 ((BitVec.ofInt (IntKind.bits .u64) x &&& BitVec.ofInt (IntKind.bits .u64) m).toNat : Int) = x % 2 ^ j := by
  obtain ⟨n, rfl⟩ := Int.eq_ofNat_of_zero_le h0
  have hn : n < 2 ^ 64 := by omega
  have hp : 2 ^ j ≤ 2 ^ 63 := Nat.pow_le_pow_right (by omega) hj
  have hpos : 0 < 2 ^ j := Nat.pos_of_ne_zero (by simp)
  have hm' : m = ((2 ^ j - 1 : Nat) : Int) := by rw [hm]; push_cast [Nat.one_le_two_pow]; rfl
  have e : (BitVec.ofInt (IntKind.bits .u64) (n : Int) &&& BitVec.ofInt (IntKind.bits .u64) m).toNat = n % 2 ^ j := by
    rw [BitVec.toNat_and, hm']
    show (BitVec.ofInt 64 (n : Int)).toNat &&& (BitVec.ofInt 64 ((2 ^ j - 1 : Nat) : Int)).toNat = _
    rw [BitVec.ofInt_natCast, BitVec.ofInt_natCast, BitVec.toNat_ofNat, BitVec.toNat_ofNat, Nat.mod_eq_of_lt hn, Nat.mod_eq_of_lt (by omega), Nat.and_two_pow_sub_one_eq_mod]
  rw [e, wrapU64 (by omega)]
  · push_cast; rfl
  · have := Nat.mod_lt n hpos
    omega

theorem shr_lit (k : IntKind) (x : Int) (b : Int) (hb : 0 ≤ b) (hb' : b ≤ 8) : shiftBin .shr k x b = some (.int k (x / 2 ^ b.toNat)) := by
  unfold shiftBin
  rw [if_neg (by omega)]
  have : min b.toNat k.bits = b.toNat := by
    have : 8 ≤ k.bits := by cases k <;> decide
    omega
  simp only [this]
  rw [Int.fdiv_eq_ediv_of_nonneg _ (by have := Int.pow_pos (n := 2) (m := b.toNat) (by omega); omega)]
theorem shr64 (k : IntKind) (hk : k.bits = 64) (x : Int) (b : Int) (hb : 0 ≤ b) (hb' : b ≤ 64) : shiftBin .shr k x b = some (.int k (x / 2 ^ b.toNat)) := by
  unfold shiftBin
  rw [if_neg (by omega)]
  have : min b.toNat k.bits = b.toNat := by omega
  simp only [this]
  rw [Int.fdiv_eq_ediv_of_nonneg _ (by have := Int.pow_pos (n := 2) (m := b.toNat) (by omega); omega)]
theorem shl64 (k : IntKind) (hk : k.bits = 64) (x : Int) (b : Int) (hb : 0 ≤ b) (hb' : b ≤ 64) : shiftBin .shl k x b = some (.int k (k.wrap (x * 2 ^ b.toNat))) := by
  unfold shiftBin
  rw [if_neg (by omega)]
  have : min b.toNat k.bits = b.toNat := by omega
  simp only [this]
end Go.Bx

