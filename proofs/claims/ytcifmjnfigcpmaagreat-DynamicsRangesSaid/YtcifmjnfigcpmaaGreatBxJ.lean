/-
  MX 1: a machine of typed values, above the logic. Types, values, states; what they stand for.
-/
import Derived.Test.YtcifmjnfigcpmaaGreatBxI
set_option linter.unusedSimpArgs false
set_option linter.unusedVariables false
set_option linter.unusedSectionVars false
namespace Go.Bx

inductive Ty where
  | int (k : IntKind) | bool | str | sl (e : Ty) | unit | pair (a b : Ty)

def kn : IntKind → Nat
  | .i8 => 0 | .i16 => 1 | .i32 => 2 | .i64 => 3 | .u8 => 4 | .u16 => 5 | .u32 => 6 | .u64 => 7
def kbeq (k l : IntKind) : Bool := Nat.beq (kn k) (kn l)
theorem kbeq_eq {k l : IntKind} (h : kbeq k l = true) : k = l := by
  cases k <;> cases l <;> first | rfl | cases h
def Ty.beq : Ty → Ty → Bool
  | .int k, .int l => kbeq k l
  | .bool, .bool => true
  | .str, .str => true
  | .unit, .unit => true
  | .sl a, .sl b => a.beq b
  | .pair a b, .pair c d => cond (a.beq c) (b.beq d) false
  | _, _ => false
theorem Ty.eq_of_beq : ∀ {a b : Ty}, a.beq b = true → a = b
  | .int k, .int l, h => by rw [kbeq_eq h]
  | .bool, .bool, _ => rfl
  | .str, .str, _ => rfl
  | .unit, .unit, _ => rfl
  | .sl a, .sl b, h => by rw [Ty.eq_of_beq (a := a) (b := b) h]
  | .pair a b, .pair c d, h => by
    simp only [Ty.beq] at h
    cases hac : a.beq c with
    | false => rw [hac] at h; cases h
    | true => rw [hac] at h; rw [Ty.eq_of_beq hac, Ty.eq_of_beq (a := b) (b := d) h]
  | .int _, .bool, h | .int _, .str, h | .int _, .unit, h | .int _, .sl _, h | .int _, .pair _ _, h => by cases h
  | .bool, .int _, h | .bool, .str, h | .bool, .unit, h | .bool, .sl _, h | .bool, .pair _ _, h => by cases h
  | .str, .int _, h | .str, .bool, h | .str, .unit, h | .str, .sl _, h | .str, .pair _ _, h => by cases h
  | .unit, .int _, h | .unit, .bool, h | .unit, .str, h | .unit, .sl _, h | .unit, .pair _ _, h => by cases h
  | .sl _, .int _, h | .sl _, .bool, h | .sl _, .str, h | .sl _, .unit, h | .sl _, .pair _ _, h => by cases h
  | .pair _ _, .int _, h | .pair _ _, .bool, h | .pair _ _, .str, h | .pair _ _, .unit, h | .pair _ _, .sl _, h => by cases h

@[reducible] def den : Ty → Type
  | .int _ => Int
  | .bool => Bool
  | .str => ByteArray
  | .sl e => List (den e)
  | .unit => Unit
  | .pair a b => den a × den b

def szT : Ty → Nat
  | .unit => 0
  | .pair a b => Nat.add (szT a) (szT b)
  | _ => 1

/-- The cells of a typed value. -/
def cv : (t : Ty) → den t → List Value
  | .int k, x => [.int k x]
  | .bool, x => [.bool x]
  | .str, x => [.string x]
  | .sl e, l => [bvS l.length (l.flatMap (cv e))]
  | .unit, _ => []
  | .pair a b, x => cv a x.1 ++ cv b x.2

theorem cv_length : ∀ (t : Ty) (x : den t), (cv t x).length = szT t
  | .int _, _ | .bool, _ | .str, _ | .sl _, _ | .unit, _ => rfl
  | .pair a b, x => by simp only [cv, List.length_append, cv_length a, cv_length b]; rfl
theorem cv_pvs : ∀ (t : Ty) (x : den t), PVs (cv t x)
  | .int _, _ => pvs_cons (pv_int _ _) pvs_nil
  | .bool, _ => pvs_cons (pv_bool _) pvs_nil
  | .str, _ => pvs_cons (pv_string _) pvs_nil
  | .sl _, _ => pvs_cons (pv_bvS _ _ _) pvs_nil
  | .unit, _ => pvs_nil
  | .pair a b, x => pvs_append (cv_pvs a x.1) (cv_pvs b x.2)
theorem cv_one : ∀ (t : Ty) (x : den t), ∀ v ∈ cv t x, v.one1 = true
  | .int _, _, v, h | .bool, _, v, h | .str, _, v, h | .sl _, _, v, h => by simp [cv] at h; subst h; rfl
  | .unit, _, v, h => by simp [cv] at h
  | .pair a b, x, v, h => by
    simp only [cv, List.mem_append] at h
    rcases h with h | h
    · exact cv_one a _ v h
    · exact cv_one b _ v h
theorem cv_valBnd (n : Nat) : ∀ (t : Ty) (x : den t), ∀ v ∈ cv t x, valBnd n v = true
  | .int _, _, v, h | .bool, _, v, h | .str, _, v, h | .sl _, _, v, h => by simp [cv] at h; subst h; rfl
  | .unit, _, v, h => by simp [cv] at h
  | .pair a b, x, v, h => by
    simp only [cv, List.mem_append] at h
    rcases h with h | h
    · exact cv_valBnd n a _ v h
    · exact cv_valBnd n b _ v h

/-- The cells of a list. -/
abbrev cvs (t : Ty) (l : List (den t)) : List Value := l.flatMap (cv t)
theorem cvs_length (t : Ty) : ∀ (l : List (den t)), (cvs t l).length = l.length * szT t
  | [] => by simp [cvs]
  | x :: l => by
    have := cvs_length t l
    simp only [cvs, List.flatMap_cons, List.length_append, cv_length, List.length_cons] at this ⊢
    rw [this, Nat.succ_mul, Nat.add_comm]
theorem cvs_pvs (t : Ty) (l : List (den t)) : PVs (cvs t l) := pvs_flatMap fun x _ => cv_pvs t x
theorem cvs_one (t : Ty) (l : List (den t)) : ∀ v ∈ cvs t l, v.one1 = true := fun v h => by
  obtain ⟨x, _, hx⟩ := List.mem_flatMap.1 h
  exact cv_one t x v hx
theorem cvs_drop (t : Ty) : ∀ (l : List (den t)) (n : Nat), (cvs t l).drop (n * szT t) = cvs t (l.drop n)
  | l, 0 => by simp
  | [], n + 1 => by simp [cvs]
  | x :: l, n + 1 => by
    have : (cvs t (x :: l)).drop ((n + 1) * szT t) = (cvs t l).drop (n * szT t) := by
      simp only [cvs, List.flatMap_cons]
      rw [List.drop_append, List.drop_of_length_le (by rw [cv_length, Nat.succ_mul]; omega), cv_length, Nat.succ_mul, Nat.add_sub_cancel, List.nil_append]
    rw [this, cvs_drop t l n]; rfl
theorem cvs_take (t : Ty) : ∀ (l : List (den t)) (n : Nat), (cvs t l).take (n * szT t) = cvs t (l.take n)
  | l, 0 => by simp
  | [], n + 1 => by simp [cvs]
  | x :: l, n + 1 => by
    have : (cvs t (x :: l)).take ((n + 1) * szT t) = cv t x ++ (cvs t l).take (n * szT t) := by
      simp only [cvs, List.flatMap_cons]
      rw [List.take_append, List.take_of_length_le (by rw [cv_length, Nat.succ_mul]; omega), cv_length, Nat.succ_mul, Nat.add_sub_cancel]
    rw [this, cvs_take t l n]; rfl
theorem cvs_elem (t : Ty) (l : List (den t)) (j : Nat) (x : den t) (h : l[j]? = some x) : ((cvs t l).drop (j * szT t)).take (szT t) = cv t x := by
  rw [cvs_drop]
  have : l.drop j = x :: l.drop (j + 1) := by
    obtain ⟨hlt, rfl⟩ := List.getElem?_eq_some_iff.1 h
    exact List.drop_eq_getElem_cons hlt
  rw [this]
  have := cvs_take t (x :: l.drop (j + 1)) 1
  simp only [Nat.one_mul] at this
  rw [this]; simp [cvs]
theorem cvs_set (t : Ty) (l : List (den t)) (j : Nat) (x : den t) (h : j < l.length) : setAt (cvs t l) (j * szT t) (cv t x) = cvs t (l.set j x) := by
  unfold setAt
  rw [cvs_take, cv_length, show j * szT t + szT t = (j + 1) * szT t by rw [Nat.succ_mul], cvs_drop]
  have : l.set j x = l.take j ++ x :: l.drop (j + 1) := by rw [List.set_eq_take_append_cons_drop, if_pos h]
  rw [this]
  simp [cvs]

/-! ### Leaves -/

inductive L where
  | v (x : Value)
  | sl (t : Ty) (l : List (den t))
  | own (b n : Nat) (nl : Bool)
  | ptr (b off : Nat)
  | top

def L.enc : L → Value
  | .v x => x
  | .sl t l => bvS l.length (cvs t l)
  | .own b n nl => cond (cond nl (Nat.beq n 0) false) (.slice none 0 0) (.slice (some ⟨b, 0, none⟩) n 1)
  | .ptr b off => .pointer (some ⟨b, off, none⟩)
  | .top => Bx.top

def cl : (t : Ty) → den t → List L
  | .int k, x => [.v (.int k x)]
  | .bool, x => [.v (.bool x)]
  | .str, x => [.v (.string x)]
  | .sl e, l => [.sl e l]
  | .unit, _ => []
  | .pair a b, x => cl a x.1 ++ cl b x.2

def encs (l : List L) : List Value := l.map L.enc
theorem encs_append (a b : List L) : encs (a ++ b) = encs a ++ encs b := List.map_append
theorem encs_length (a : List L) : (encs a).length = a.length := List.length_map _
theorem encs_take (a : List L) (n : Nat) : encs (a.take n) = (encs a).take n := by simp [encs, List.map_take]
theorem encs_drop (a : List L) (n : Nat) : encs (a.drop n) = (encs a).drop n := by simp [encs, List.map_drop]
theorem encs_get (a : List L) (n : Nat) : (encs a)[n]? = (a[n]?).map L.enc := by simp [encs]
theorem encs_cl : ∀ (t : Ty) (x : den t), encs (cl t x) = cv t x
  | .int _, _ | .bool, _ | .str, _ | .sl _, _ | .unit, _ => rfl
  | .pair a b, x => by simp only [cl, cv, encs_append, encs_cl a, encs_cl b]
theorem cl_length (t : Ty) (x : den t) : (cl t x).length = szT t := by rw [← encs_length, encs_cl, cv_length]

/-- Out of cells, a typed value and what is left. -/
def uncl (lax : Bool) : (t : Ty) → List L → Option (den t × List L)
  | .int k, .v (.int k' n) :: r => cond (kbeq k k') (some (n, r)) none
  | .bool, .v (.bool b) :: r => some (b, r)
  | .str, .v (.string s) :: r => some (s, r)
  | .sl e, .sl t l :: r => if h : t.beq e = true then some ((Ty.eq_of_beq h) ▸ l, r) else none
  | .sl _, .v (.slice none 0 0) :: r => cond lax (some ([], r)) none
  | .unit, r => some ((), r)
  | .pair a b, r => match uncl lax a r with
    | some (x, r1) => (match uncl lax b r1 with
      | some (y, r2) => some ((x, y), r2)
      | none => none)
    | none => none
  | _, _ => none

theorem uncl_eq : ∀ (t : Ty) {r r2 : List L} {x : den t}, uncl false t r = some (x, r2) → encs r = cv t x ++ encs r2
  | .int k, .v (.int k' n) :: r, r2, x, h => by
    simp only [uncl] at h
    cases hk : kbeq k k' with
    | false => rw [hk] at h; cases h
    | true => rw [hk] at h; cases h; have : k = k' := kbeq_eq hk; subst this; rfl
  | .bool, .v (.bool b) :: r, r2, x, h => by cases h; rfl
  | .str, .v (.string s) :: r, r2, x, h => by cases h; rfl
  | .sl e, .sl t l :: r, r2, x, h => by
    simp only [uncl] at h
    split at h
    · rename_i hb
      have := Ty.eq_of_beq hb
      subst this
      cases h; rfl
    · cases h
  | .sl _, .v (.slice none 0 0) :: r, r2, x, h => by simp [uncl] at h
  | .unit, r, r2, x, h => by cases h; rfl
  | .pair a b, r, r2, x, h => by
    simp only [uncl] at h
    split at h
    · rename_i y r1 h1
      split at h
      · rename_i z r3 h3
        cases h
        rw [uncl_eq a h1, uncl_eq b h3]
        simp [cv]
      · cases h
    · cases h

/-! ### Values and states -/

inductive S0 where
  | one (x : L)
  | agg (cs : List L)
  | ep (cs : List L)
  | lp (b : Nat) (t : Ty) (j off : Nat)

inductive SV where
  | s (x : S0)
  | tup (xs : List S0)
  | clo (f : FuncId) (xs ys : List S0)

def S0.enc : S0 → Value
  | .one x => x.enc
  | .agg cs => .agg (encs cs).toArray
  | .ep cs => bvP (encs cs)
  | .lp b t j off => .pointer (some ⟨b, j * szT t + off, none⟩)

def SV.enc : SV → Value
  | .s x => x.enc
  | .tup xs => .tuple (xs.map S0.enc).toArray
  | .clo f xs ys => .func (.func f) (xs.map S0.enc).toArray (ys.map S0.enc).toArray

inductive Ob where
  | dead
  | cells (cs : List L) (e : TypeId)
  | lst (t : Ty) (l : List (den t)) (nl : Bool) (e : TypeId)

def Ob.enc : Ob → Option AObj
  | .dead => none
  | .cells cs e => some ⟨encs cs, e, true⟩
  | .lst t l nl e => cond (cond nl l.isEmpty false) none (some ⟨cvs t l, e, true⟩)

abbrev SFr := List (Nat × SV)
def encT (τ : SFr) : Fr := τ.map fun p => (p.1, p.2.enc)
abbrev SH := List Ob
def encH (H : SH) : Hp := H.map Ob.enc

def lkS : SFr → Nat → SV
  | [], _ => .s (.one .top)
  | (k, v) :: r, t => cond (Nat.beq t k) v (lkS r t)
theorem lk_enc : ∀ (τ : SFr) (t : Nat), lk (encT τ) t = (lkS τ t).enc
  | [], _ => rfl
  | (k, v) :: r, t => by
    simp only [encT, List.map_cons, lk, lkS]
    cases Nat.beq t k with
    | true => rfl
    | false => exact lk_enc r t

def ofV : Value → SV
  | .agg xs => .s (.agg (xs.toList.map L.v))
  | v => .s (.one (.v v))
theorem encs_v (l : List Value) : encs (l.map L.v) = l := by simp [encs, Function.comp_def, L.enc]
theorem ofV_enc (v : Value) : (ofV v).enc = v := by
  cases v with
  | agg xs => simp [ofV, SV.enc, S0.enc, encs_v]
  | _ => rfl

def opdS (τ : SFr) : Operand → SV
  | .tmp t => lkS τ t
  | .const v => ofV v
  | .global _ => .s (.one (.v undef))
  | .func f => .clo f [] []
theorem opd_enc (τ : SFr) (x : Operand) : opdL (encT τ) x = (opdS τ x).enc := by
  cases x with
  | tmp t => exact lk_enc τ t
  | const v => exact (ofV_enc v).symm
  | global g => rfl
  | func f => rfl

theorem encH_length (H : SH) : (encH H).length = H.length := List.length_map _
theorem encH_get (H : SH) (i : Nat) : hget (encH H) i = (match H[i]? with | some o => o.enc | none => none) := by
  unfold hget encH
  rw [List.getElem?_map]
  cases H[i]? with
  | none => rfl
  | some o => simp only [Option.map_some]; cases o.enc <;> rfl
theorem encH_push (H : SH) (o : Ob) (a : AObj) (h : o.enc = some a) : encH (H ++ [o]) = hpush (encH H) a := by simp [encH, hpush, h]
theorem encH_set (H : SH) (i : Nat) (o : Ob) (a : AObj) (h : o.enc = some a) : encH (H.set i o) = hput (encH H) i a := by simp [encH, hput, List.map_set, h]
theorem encH_kill (H : SH) (i : Nat) : encH (H.set i .dead) = hkill (encH H) i := by simp [encH, hkill, List.map_set, Ob.enc]

/-- What has been left alone. -/
def WS (ws : List Nat) (A B : Hp) : Prop := A.length ≤ B.length ∧ ∀ i, i < A.length → i ∉ ws → hget B i = hget A i
theorem WS.refl (A : Hp) : WS [] A A := ⟨Nat.le_refl _, fun _ _ _ => rfl⟩
theorem WS.push (A : Hp) (o : AObj) : WS [] A (hpush A o) := ⟨by simp [hpush], fun i hi _ => by rw [hget_push, if_neg (by omega)]⟩
theorem WS.put {A : Hp} {b : Nat} {o o' : AObj} (h : hget A b = some o') : WS [b] A (hput A b o) := ⟨by simp [hput], fun i hi hn => by
  rw [hget_put _ _ _ _ (hget_lt h), if_neg (by simpa using hn)]⟩

/-- A condition that has to hold. -/
def need (c : Prop) [Decidable c] (A : Prop) : Prop := if c then A else False
theorem need_iff {c : Prop} [Decidable c] {A : Prop} : need c A ↔ c ∧ A := by unfold need; split <;> simp_all
theorem need_i {c : Prop} [Decidable c] {A : Prop} (h : c) (ha : A) : need c A := need_iff.2 ⟨h, ha⟩
/-- Two ways. -/
def cnd (t : Bool) (A B : Prop) : Prop := match t with | true => A | false => B
theorem cnd_i {t : Bool} {A B : Prop} (h1 : t = true → A) (h2 : t = false → B) : cnd t A B := by cases t <;> simp_all [cnd]
theorem cnd_dec {c : Prop} [Decidable c] {A B : Prop} (h1 : c → A) (h2 : ¬ c → B) : cnd (decide c) A B := by
  by_cases h : c
  · simp only [h, decide_true, cnd]; exact h1 h
  · simp only [h, decide_false, cnd]; exact h2 h

end Go.Bx

namespace Go.Bx

abbrev VK := SV → SH → List Nat → Prop
def OpOK (τ : SFr) (H : SH) (op : AOp) (K : VK) : Prop := ∃ sv H' ws, K sv H' ws ∧ opS (opdL (encT τ)) (encH H) op = some (sv.enc, encH H') ∧ WS ws (encH H) (encH H')

/-! Forced pieces: the same condition, its lists written out. -/
def fl (x : L) (K : L → Prop) : Prop :=
  match x with
  | .v (.int k n) => K (.v (.int k n))
  | .v (.bool b) => K (.v (.bool b))
  | .v a => K (.v a)
  | .sl t l => K (.sl t l)
  | .own b n nl => K (.own b n nl)
  | .ptr b o => K (.ptr b o)
  | .top => K .top
theorem fl_iff {x : L} {K : L → Prop} : fl x K ↔ K x := by
  unfold fl
  split <;> exact Iff.rfl
def fc : List L → (List L → Prop) → Prop
  | [], K => K []
  | x :: r, K => fl x fun x => fc r fun r => K (x :: r)
theorem fc_iff : ∀ {cs : List L} {K : List L → Prop}, fc cs K ↔ K cs
  | [], K => Iff.rfl
  | x :: r, K => by simp only [fc, fl_iff, fc_iff]
def fv (v : SV) (K : SV → Prop) : Prop :=
  match v with
  | .s (.one x) => fl x fun x => K (.s (.one x))
  | .s (.agg cs) => fc cs fun cs => K (.s (.agg cs))
  | .s (.ep cs) => fc cs fun cs => K (.s (.ep cs))
  | v => K v
theorem fv_iff {v : SV} {K : SV → Prop} : fv v K ↔ K v := by
  unfold fv
  split <;> simp only [fl_iff, fc_iff]
def fh : SH → (SH → Prop) → Prop
  | [], K => K []
  | o :: r, K => fh r fun r => K (o :: r)
theorem fh_iff : ∀ {H : SH} {K : SH → Prop}, fh H K ↔ K H
  | [], K => Iff.rfl
  | o :: r, K => by simp only [fh, fh_iff]

def ft : SFr → (SFr → Prop) → Prop
  | [], K => K []
  | (t, v) :: r, K => fv v fun v => ft r fun r => K ((t, v) :: r)
theorem ft_iff : ∀ {τ : SFr} {K : SFr → Prop}, ft τ K ↔ K τ
  | [], K => Iff.rfl
  | (t, v) :: r, K => by simp only [ft, fv_iff, ft_iff]
def fo (o : Ob) (K : Ob → Prop) : Prop :=
  match o with
  | .cells cs e => fc cs fun cs => K (.cells cs e)
  | o => K o
theorem fo_iff {o : Ob} {K : Ob → Prop} : fo o K ↔ K o := by
  unfold fo
  split <;> simp only [fc_iff]
def fhd : SH → (SH → Prop) → Prop
  | [], K => K []
  | o :: r, K => fo o fun o => fhd r fun r => K (o :: r)
theorem fhd_iff : ∀ {H : SH} {K : SH → Prop}, fhd H K ↔ K H
  | [], K => Iff.rfl
  | o :: r, K => by simp only [fhd, fo_iff, fhd_iff]
def fst2 (τ : SFr) (H : SH) (K : SFr → SH → Prop) : Prop := ft τ fun τ => fhd H fun H => K τ H
theorem fst2_iff {τ : SFr} {H : SH} {K : SFr → SH → Prop} : fst2 τ H K ↔ K τ H := by simp only [fst2, ft_iff, fhd_iff]

def lits : List Nat := [0, 1, 2, 3, 4, 5, 6, 7, 8, 9, 10, 11, 12, 13, 14, 15, 16, 17, 18, 19, 20, 21, 22, 23, 24, 25, 26, 27, 28, 29, 30, 31, 32, 33, 34, 35, 36, 37, 38, 39, 40, 41, 42, 43, 44, 45, 46, 47, 48, 49, 50, 51, 52, 53, 54, 55, 56, 57, 58, 59, 60, 61, 62, 63, 64, 65, 66, 67, 68, 69, 70, 71, 72, 73, 74, 75, 76, 77, 78, 79, 80, 81, 82, 83, 84, 85, 86, 87, 88, 89, 90, 91, 92, 93, 94, 95, 96, 97, 98, 99, 100, 101, 102, 103, 104, 105, 106, 107, 108, 109, 110, 111, 112, 113, 114, 115, 116, 117, 118, 119]
theorem lits_eq : lits = List.range 120 := by decide
/-- The number of blocks, as a numeral. -/
def flen : List Nat → SH → (Nat → Prop) → Prop
  | n :: _, [], K => K n
  | _ :: ns, _ :: r, K => flen ns r K
  | [], _, _ => False
theorem flen_get : ∀ {ls : List Nat} {H : SH} {K : Nat → Prop}, flen ls H K → ∃ x, ls[H.length]? = some x ∧ K x
  | n :: _, [], K, h => ⟨n, rfl, h⟩
  | _ :: ns, _ :: r, K, h => by simpa using flen_get (ls := ns) h
  | [], [], _, h => h.elim
  | [], _ :: _, _, h => h.elim
theorem flen_ok {H : SH} {K : Nat → Prop} (h : flen lits H K) : K H.length := by
  obtain ⟨x, hx, hk⟩ := flen_get h
  rw [lits_eq] at hx
  obtain ⟨_, rfl⟩ := List.getElem?_eq_some_iff.1 hx
  simpa using hk

def partS (sz : Option Nat) (cs : List L) (off : Nat) : Option SV :=
  match sz with
  | none => match cs[off]? with | some x => some (.s (.one x)) | none => none
  | some n => cond (Nat.ble (Nat.add off n) cs.length) (some (.s (.agg ((cs.drop off).take n)))) none
theorem partS_ok {sz : Option Nat} {cs : List L} {off : Nat} {sv : SV} (h : partS sz cs off = some sv) : partA sz (encs cs) off = some sv.enc := by
  cases sz with
  | none =>
    simp only [partS] at h
    split at h
    · rename_i x hx
      cases h
      simp only [partA, encs_get, hx]; rfl
    · cases h
  | some n =>
    simp only [partS] at h
    rw [Bool.cond_eq_ite] at h
    split at h
    · rename_i hb
      cases h
      have hb' : Nat.ble (off + n) (encs cs).length = true := by rw [encs_length]; exact hb
      simp only [partA, hb', cond_true, SV.enc, S0.enc, encs_take, encs_drop]
    · cases h

def isTop : L → Bool
  | .top => true
  | .v (.chan _) => true
  | .v (.tuple _) => true
  | .v (.agg _) => true
  | _ => false
def cellsS : SV → Option (List L)
  | .s (.one x) => cond (isTop x) none (some [x])
  | .s (.agg cs) => some cs
  | _ => none
theorem cellsS_ok {sv : SV} {cs : List L} (h : cellsS sv = some cs) : storable sv.enc = true ∧ sv.enc.cells.toList = encs cs := by
  unfold cellsS at h
  split at h
  · rename_i x
    rw [Bool.cond_eq_ite] at h
    split at h
    · cases h
    · rename_i ht
      cases h
      cases x with
      | v y => cases y <;> first | exact ⟨rfl, rfl⟩ | (exact absurd rfl ht)
      | own b n nl =>
        simp only [SV.enc, S0.enc, L.enc, encs, List.map_cons, List.map_nil]
        cases cond nl (Nat.beq n 0) false <;> exact ⟨rfl, rfl⟩
      | top => exact absurd rfl ht
      | _ => exact ⟨rfl, rfl⟩
  · cases h
    exact ⟨rfl, rfl⟩
  · cases h

def setAtL (l : List L) (off : Nat) (cs : List L) : List L := l.take off ++ (cs ++ l.drop (Nat.add off cs.length))
theorem setAtL_enc (l : List L) (off : Nat) (cs : List L) : encs (setAtL l off cs) = setAt (encs l) off (encs cs) := by
  unfold setAtL setAt
  rw [encs_append, encs_append, encs_take, encs_drop, encs_length]; rfl

def fillS (cells : List L) : List (Nat × Nat × SV) → Option (List L)
  | [] => some cells
  | (off, size, v) :: rest =>
    match cellsS v with
    | some vs => cond (Nat.beq vs.length size && Nat.ble (Nat.add off size) cells.length) (fillS (setAtL cells off vs) rest) none
    | none => none
theorem fillS_ok : ∀ (parts : List (Nat × Nat × SV)) {cells cs : List L}, fillS cells parts = some cs → fillL (encs cells) (parts.map fun p => (p.1, p.2.1, p.2.2.enc)) = some (encs cs)
  | [], cells, cs, h => by cases h; rfl
  | (off, size, v) :: rest, cells, cs, h => by
    simp only [fillS] at h
    split at h
    · rename_i vs hv
      rw [Bool.cond_eq_ite] at h
      split at h
      · rename_i hb
        obtain ⟨h1, h2⟩ := cellsS_ok hv
        have hsz : v.enc.cells.size = vs.length := by rw [← Array.length_toList, h2, encs_length]
        simp only [List.map_cons, fillL, hsz, encs_length, h1, Bool.and_true]
        rw [show (Nat.beq vs.length size && Nat.ble (off + size) cells.length) = true from hb, cond_true, h2, ← setAtL_enc]
        exact fillS_ok rest h
      · cases h
    · cases h

def unclN (t : Ty) : Nat → List L → Option (List (den t))
  | 0, [] => some []
  | 0, _ :: _ => none
  | n + 1, cs => match uncl false t cs with
    | some (x, r) => (match unclN t n r with | some l => some (x :: l) | none => none)
    | none => none
theorem unclN_ok (t : Ty) : ∀ (n : Nat) {cs : List L} {l : List (den t)}, unclN t n cs = some l → encs cs = cvs t l ∧ l.length = n
  | 0, [], l, h => by cases h; exact ⟨rfl, rfl⟩
  | 0, _ :: _, l, h => by cases h
  | n + 1, cs, l, h => by
    simp only [unclN] at h
    split at h
    · rename_i x r hx
      split at h
      · rename_i l' hl
        cases h
        obtain ⟨h1, h2⟩ := unclN_ok t n hl
        exact ⟨by rw [uncl_eq t hx, h1]; simp [cvs], by simp [h2]⟩
      · cases h
    · cases h

def allS : List SV → Option (List S0)
  | [] => some []
  | .s x :: r => match allS r with | some l => some (x :: l) | none => none
  | _ :: _ => none
theorem allS_ok : ∀ {l : List SV} {m : List S0}, allS l = some m → l.map SV.enc = m.map S0.enc
  | [], m, h => by cases h; rfl
  | .s x :: r, m, h => by
    simp only [allS] at h
    split at h
    · rename_i l hl
      cases h
      simp only [List.map_cons, allS_ok hl]; rfl
    · cases h
  | .tup _ :: _, m, h => by cases h
  | .clo .. :: _, m, h => by cases h

def intsOf (k : IntKind) : List L → Option (List Int)
  | [] => some []
  | .v (.int k' n) :: r => cond (kbeq k k') (match intsOf k r with | some l => some (n :: l) | none => none) none
  | _ :: _ => none
theorem intsOf_ok {k : IntKind} : ∀ {cs : List L} {l : List Int}, intsOf k cs = some l → encs cs = l.map (Value.int k)
  | [], l, h => by cases h; rfl
  | x :: r, l, h => by
    unfold intsOf at h
    split at h
    · cases h; contradiction
    · rename_i k' n r' he
      cases he
      cases hk : kbeq k k' with
      | false => rw [hk] at h; cases h
      | true =>
        rw [hk] at h
        have := kbeq_eq hk
        subst this
        simp only [cond_true] at h
        split at h
        · rename_i l' hl
          cases h
          have := intsOf_ok hl
          simp only [encs, List.map_cons] at this ⊢
          rw [this]; rfl
        · cases h
    · cases h
/-- An element of a table. -/
def tab (l : List Int) (j : Int) : Int := l.getD j.toNat 0
/-- A byte of a text. -/
def byteAt (s : ByteArray) (j : Int) : Int := ((s.data.toList[j.toNat]?).getD 0).toNat

def sv (x : Value) : SV := .s (.one (.v x))

/-! Names for operations on bits. -/
def shlI (k : IntKind) (x y : Int) : Int := k.wrap (x * 2 ^ (min y.toNat k.bits))
def shrI (k : IntKind) (x y : Int) : Int := x.fdiv (2 ^ (min y.toNat k.bits))
def bandI (k : IntKind) (x y : Int) : Int := k.wrap (BitVec.ofInt k.bits x &&& BitVec.ofInt k.bits y).toNat
def borI (k : IntKind) (x y : Int) : Int := k.wrap (BitVec.ofInt k.bits x ||| BitVec.ofInt k.bits y).toNat
def bxorI (k : IntKind) (x y : Int) : Int := k.wrap (BitVec.ofInt k.bits x ^^^ BitVec.ofInt k.bits y).toNat
/-- A binary operation on plain values. -/
def vbin (op : BinOp) (ek : EK) (a b : Value) (K : Value → Prop) : Prop :=
  match op, a, b with
  | .quo, .int k x, .int l y => cond (kbeq k l) (need (y ≠ 0) (K (.int k (k.wrap (x.tdiv y))))) False
  | .rem, .int k x, .int l y => cond (kbeq k l) (need (y ≠ 0) (K (.int k (x.tmod y)))) False
  | .shl, .int k x, .int _ y => need (0 ≤ y) (K (.int k (shlI k x y)))
  | .shr, .int k x, .int _ y => need (0 ≤ y) (K (.int k (shrI k x y)))
  | .and, .int k x, .int l y => cond (kbeq k l) (K (.int k (bandI k x y))) False
  | .or, .int k x, .int l y => cond (kbeq k l) (K (.int k (borI k x y))) False
  | .xor, .int k x, .int l y => cond (kbeq k l) (K (.int k (bxorI k x y))) False
  | .gtr, .int k x, .int l y => cond (kbeq k l) (K (.bool (decide (y < x)))) False
  | .geq, .int k x, .int l y => cond (kbeq k l) (K (.bool (decide (y ≤ x)))) False
  | .eql, .int k x, .int l y => cond (kbeq k l) (K (.bool (decide (x = y)))) False
  | .neq, .int k x, .int l y => cond (kbeq k l) (K (.bool (!decide (x = y)))) False
  | op, a, b => match binA op ek a b with | some v => K v | none => False

theorem vbin_ok {op : BinOp} {ek : EK} {a b : Value} {K : Value → Prop} (h : vbin op ek a b K) : ∃ v, binA op ek a b = some v ∧ K v := by
  unfold vbin at h
  split at h
  · rename_i k x l y
    cases hk : kbeq k l with
    | false => rw [hk] at h; cases h
    | true =>
      rw [hk] at h
      have := kbeq_eq hk
      subst this
      obtain ⟨h1, h2⟩ := need_iff.1 h
      exact ⟨_, b_quo _ _ _ _ h1, h2⟩
  · rename_i k x l y
    cases hk : kbeq k l with
    | false => rw [hk] at h; cases h
    | true =>
      rw [hk] at h
      have := kbeq_eq hk
      subst this
      obtain ⟨h1, h2⟩ := need_iff.1 h
      exact ⟨_, b_rem _ _ _ _ h1, h2⟩
  · rename_i k x l y
    obtain ⟨h1, h2⟩ := need_iff.1 h
    exact ⟨_, b_shl _ _ _ _ l h1, h2⟩
  · rename_i k x l y
    obtain ⟨h1, h2⟩ := need_iff.1 h
    exact ⟨_, b_shr _ _ _ _ l h1, h2⟩
  · rename_i k x l y
    cases hk : kbeq k l with
    | false => rw [hk] at h; cases h
    | true =>
      rw [hk] at h
      have := kbeq_eq hk
      subst this
      exact ⟨_, b_and _ _ _ _, h⟩
  · rename_i k x l y
    cases hk : kbeq k l with
    | false => rw [hk] at h; cases h
    | true =>
      rw [hk] at h
      have := kbeq_eq hk
      subst this
      exact ⟨_, b_or _ _ _ _, h⟩
  · rename_i k x l y
    cases hk : kbeq k l with
    | false => rw [hk] at h; cases h
    | true =>
      rw [hk] at h
      have := kbeq_eq hk
      subst this
      exact ⟨_, by simp [binA, intBin, bxorI], h⟩
  · rename_i k x l y
    cases hk : kbeq k l with
    | false => rw [hk] at h; cases h
    | true =>
      rw [hk] at h
      have := kbeq_eq hk
      subst this
      exact ⟨_, b_gtr _ _ _ _, h⟩
  · rename_i k x l y
    cases hk : kbeq k l with
    | false => rw [hk] at h; cases h
    | true =>
      rw [hk] at h
      have := kbeq_eq hk
      subst this
      exact ⟨_, b_geq _ _ _ _, h⟩
  · rename_i k x l y
    cases hk : kbeq k l with
    | false => rw [hk] at h; cases h
    | true =>
      rw [hk] at h
      have := kbeq_eq hk
      subst this
      exact ⟨_, b_eql _ _ _ _, h⟩
  · rename_i k x l y
    cases hk : kbeq k l with
    | false => rw [hk] at h; cases h
    | true =>
      rw [hk] at h
      have := kbeq_eq hk
      subst this
      exact ⟨_, b_neq _ _ _ _, h⟩
  · split at h
    · rename_i v hv
      exact ⟨v, hv, h⟩
    · cases h

/-- '==' cell by cell. -/
def flatS : List CK → List L → List L → Option Bool
  | [], [], [] => some true
  | .int :: ks, .v (.int k a) :: xs, .v (.int l b) :: ys => cond (kbeq k l) (match flatS ks xs ys with | some r => some (decide (a = b) && r) | none => none) none
  | .bool :: ks, .v (.bool a) :: xs, .v (.bool b) :: ys => (match flatS ks xs ys with | some r => some (a == b && r) | none => none)
  | .str :: ks, .v (.string a) :: xs, .v (.string b) :: ys => (match flatS ks xs ys with | some r => some (a == b && r) | none => none)
  | _, _, _ => none
theorem flatS_ok : ∀ {ks : List CK} {xs ys : List L} {r : Bool}, flatS ks xs ys = some r → flatEq ks (encs xs) (encs ys) = some r
  | [], [], [], r, h => by cases h; rfl
  | .int :: ks, .v (.int k a) :: xs, .v (.int l b) :: ys, r, h => by
    simp only [flatS] at h
    cases hk : kbeq k l with
    | false => rw [hk] at h; cases h
    | true =>
      rw [hk] at h
      have := kbeq_eq hk
      subst this
      simp only [cond_true] at h
      split at h
      · rename_i r' hr
        cases h
        have := flatS_ok hr
        simp only [encs, List.map_cons, L.enc, flatEq, if_true] at this ⊢
        rw [this]; rfl
      · cases h
  | .bool :: ks, .v (.bool a) :: xs, .v (.bool b) :: ys, r, h => by
    simp only [flatS] at h
    split at h
    · rename_i r' hr
      cases h
      have := flatS_ok hr
      simp only [encs, List.map_cons, L.enc, flatEq] at this ⊢
      rw [this]
    · cases h
  | .str :: ks, .v (.string a) :: xs, .v (.string b) :: ys, r, h => by
    simp only [flatS] at h
    split at h
    · rename_i r' hr
      cases h
      have := flatS_ok hr
      simp only [encs, List.map_cons, L.enc, flatEq] at this ⊢
      rw [this]
    · cases h

/-- The bounds of a part. -/
def vbnd (lo hi : Option SV) (n : Nat) (K : Nat → Nat → Prop) : Prop :=
  match lo, hi with
  | none, none => K 0 n
  | some (.s (.one (.v (.int _ l)))), none => need (0 ≤ l ∧ l ≤ (n : Int)) (K l.toNat n)
  | none, some (.s (.one (.v (.int _ h)))) => need (0 ≤ h ∧ h ≤ (n : Int)) (K 0 h.toNat)
  | some (.s (.one (.v (.int _ l)))), some (.s (.one (.v (.int _ h)))) => need (0 ≤ l ∧ l ≤ h ∧ h ≤ (n : Int)) (K l.toNat h.toNat)
  | _, _ => False
theorem vbnd_ok {lo hi : Option SV} {n : Nat} {K : Nat → Nat → Prop} (h : vbnd lo hi n K) : ∃ a b, boundHi (hi.map SV.enc) n = some b ∧ boundLo (lo.map SV.enc) b = some a ∧ a ≤ b ∧ b ≤ n ∧ K a b := by
  unfold vbnd at h
  split at h
  · exact ⟨0, n, rfl, rfl, Nat.zero_le _, Nat.le_refl _, h⟩
  · rename_i k l
    obtain ⟨⟨h1, h2⟩, h3⟩ := need_iff.1 h
    refine ⟨l.toNat, n, rfl, ?_, by omega, Nat.le_refl _, h3⟩
    simp only [Option.map_some, boundLo, SV.enc, S0.enc, L.enc, bound, if_pos (And.intro h1 h2)]
  · rename_i k l
    obtain ⟨⟨h1, h2⟩, h3⟩ := need_iff.1 h
    refine ⟨0, l.toNat, ?_, rfl, Nat.zero_le _, by omega, h3⟩
    simp only [Option.map_some, boundHi, SV.enc, S0.enc, L.enc, bound, if_pos (And.intro h1 h2)]
  · rename_i k l k' hh
    obtain ⟨⟨h1, h2, h3⟩, h4⟩ := need_iff.1 h
    refine ⟨l.toNat, hh.toNat, ?_, ?_, by omega, by omega, h4⟩
    · simp only [Option.map_some, boundHi, SV.enc, S0.enc, L.enc, bound]; rw [if_pos (by omega)]
    · simp only [Option.map_some, boundLo, SV.enc, S0.enc, L.enc, bound]; rw [if_pos (by omega)]
  · cases h

end Go.Bx

namespace Go.Bx

abbrev TE := TypeId → Option Ty

def unitS : SV := sv undef

def vload (H : SH) (sz : Option Nat) (x : SV) (K : VK) : Prop :=
  match x with
  | .s (.one (.ptr b off)) => (match H[b]? with
    | some (.cells cs _) => (match partS sz cs off with | some v => fv v fun v => K v H [] | none => False)
    | _ => False)
  | .s (.ep cs) => (match partS sz cs 0 with | some v => fv v fun v => K v H [] | none => False)
  | .s (.lp b t j off) => (match H[b]? with
    | some (.lst t' l _ _) => cond (t'.beq t) (need (j < l.length) (∀ x, l[j]? = some x → match partS sz (cl t' x) off with | some v => fv v fun v => K v H [] | none => False)) False
    | _ => False)
  | _ => False

def vstore (H : SH) (sz : Nat) (x v : SV) (K : VK) : Prop :=
  match cellsS v with
  | none => False
  | some vs =>
    match x with
    | .s (.one (.ptr b off)) => (match H[b]? with
      | some (.cells cs e) => cond (Nat.beq vs.length sz && Nat.ble (Nat.add off sz) cs.length) (fc (setAtL cs off vs) fun cs => fh (H.set b (.cells cs e)) fun H => K unitS H [b]) False
      | _ => False)
    | .s (.lp b t j off) => (match H[b]? with
      | some (.lst t' l nl e) => cond (t'.beq t && (Nat.beq vs.length sz && Nat.ble (Nat.add off sz) (szT t')))
          (need (j < l.length) (∀ x, l[j]? = some x → match uncl false t' (setAtL (cl t' x) off vs) with | some (y, []) => fh (H.set b (.lst t' (l.set j y) nl e)) fun H => K unitS H [b] | _ => False)) False
      | _ => False)
    | _ => False

/-- What is to be appended. -/
def elems (H : SH) (x : SV) (K : (t : Ty) → List (den t) → Prop) : Prop :=
  match x with
  | .s (.one (.sl t l)) => K t l
  | .s (.one (.own b n _)) => (match H[b]? with | some (.lst t l _ _) => need (l.length = n) (K t l) | _ => False)
  | _ => False

def lim : Int := 140737488355328

def vappend (H : SH) (e : TypeId) (sz bytes : Nat) (s x : SV) (K : VK) : Prop :=
  elems H x fun t m =>
    cond (Nat.beq sz (szT t)) (
    match s with
    | .s (.one (.v (.slice none l _))) => cond (Nat.beq l 0) (cnd m.isEmpty (K (sv (.slice none 0 0)) H [])
        (need ((m.length : Int) * bytes ≤ lim ∧ (m.length : Int) ≤ lim) (flen lits H fun N => fh (H ++ [.lst t m true e]) fun H' => K (.s (.one (.own N m.length true))) H' []))) False
    | .s (.one (.own b n nl)) => (match H[b]? with
      | some (.lst t' l nl' e') => if h : t.beq t' = true then
          cond (Nat.beq e' e && (nl' == nl && Nat.blt 0 sz)) (need (l.length = n) (cnd m.isEmpty (K (.s (.one (.own b n nl))) H [])
            (need (((l ++ (Ty.eq_of_beq h ▸ m : List (den t'))).length : Int) * bytes ≤ lim ∧ ((l ++ (Ty.eq_of_beq h ▸ m : List (den t'))).length : Int) ≤ lim)
              (flen lits H fun N => fh (H.set b .dead ++ [.lst t' (l ++ (Ty.eq_of_beq h ▸ m : List (den t'))) nl e]) fun H' => K (.s (.one (.own N (l ++ (Ty.eq_of_beq h ▸ m : List (den t'))).length nl))) H' [b])))) False
        else False
      | _ => False)
    | _ => False) False

def vop (te : TE) (τ : SFr) (H : SH) (op : AOp) (K : VK) : Prop :=
  match op with
  | .mv x => K (opdS τ x) H []
  | .pick c a b => (match opdS τ c with
    | .s (.one (.v (.bool t))) => cnd t (K (opdS τ a) H []) (K (opdS τ b) H [])
    | _ => False)
  | .alloc e zc => fc (zc.map L.v) fun cs => flen lits H fun N => fh (H ++ [.cells cs e]) fun H' => K (.s (.one (.ptr N 0))) H' []
  | .box e x => (match cellsS (opdS τ x) with
    | some cs => fc cs fun cs => flen lits H fun N => fh (H ++ [.cells cs e]) fun H' => K (.s (.one (.ptr N 0))) H' []
    | none => False)
  | .build zc parts => (match fillS (zc.map L.v) (parts.map fun p => (p.1, p.2.1, opdS τ p.2.2)) with
    | some cs => fc cs fun cs => K (.s (.agg cs)) H []
    | none => False)
  | .buildSlice e zc len parts => (match te e, fillS (zc.map L.v) (parts.map fun p => (p.1, p.2.1, opdS τ p.2.2)) with
    | some t, some cs => (match unclN t len cs with
      | some l => flen lits H fun N => fh (H ++ [.lst t l false e]) fun H' => K (.s (.one (.own N len false))) H' []
      | none => False)
    | _, _ => False)
  | .load sz x => vload H sz (opdS τ x) K
  | .store sz x v => vstore H sz (opdS τ x) (opdS τ v) K
  | .bin op ek x y => (match opdS τ x, opdS τ y with
    | .s (.one (.v a)), .s (.one (.v b)) => vbin op ek a b fun v => K (sv v) H []
    | .s (.agg xs), .s (.agg ys) => (match op, ek with
      | .eql, .flat ks => (match flatS ks xs ys with | some r => K (sv (.bool r)) H [] | none => False)
      | .neq, .flat ks => (match flatS ks xs ys with | some r => K (sv (.bool (!r))) H [] | none => False)
      | _, _ => False)
    | _, _ => False)
  | .un op x => (match opdS τ x with
    | .s (.one (.v a)) => (match unA op a with | some v => K (sv v) H [] | none => False)
    | _ => False)
  | .conv k x => (match opdS τ x with
    | .s (.one (.v (.int _ n))) => K (sv (.int k (k.wrap n))) H []
    | _ => False)
  | .strMv x => (match opdS τ x with
    | .s (.one (.v (.string s))) => K (sv (.string s)) H []
    | _ => False)
  | .mkF f first cap => (match allS (first.map (opdS τ)), allS (cap.map (opdS τ)) with
    | some a, some b => K (.clo f a b) H []
    | _, _ => False)
  | .makeSlice e zc bytes l c => (match te e, opdS τ l, opdS τ c with
    | some t, .s (.one (.v (.int _ a))), .s (.one (.v (.int _ b))) => (match uncl false t (zc.map L.v) with
      | some (z, []) => need (a = b ∧ 0 ≤ a ∧ a * bytes ≤ lim ∧ a ≤ lim) (flen lits H fun N => fh (H ++ [.lst t (List.replicate a.toNat z) false e]) fun H' => K (.s (.one (.own N a.toNat false))) H' [])
      | _ => False)
    | _, _, _ => False)
  | .slcS x lo hi => (match opdS τ x with
    | .s (.one (.v (.string s))) => vbnd (lo.map (opdS τ)) (hi.map (opdS τ)) s.size fun a b => K (sv (.string (s.extract a b))) H []
    | _ => False)
  | .slc sz x lo hi => (match opdS τ x with
    | .s (.one (.sl t l)) => cond (Nat.beq sz (szT t)) (vbnd (lo.map (opdS τ)) (hi.map (opdS τ)) l.length fun a b => K (.s (.one (.sl t ((l.drop a).take (b - a))))) H []) False
    | .s (.one (.v (.slice none 0 0))) => vbnd (lo.map (opdS τ)) (hi.map (opdS τ)) 0 fun _ _ => K (sv (.slice none 0 0)) H []
    | _ => False)
  | .fieldAddr off x => (match opdS τ x with
    | .s (.one (.ptr b o)) => K (.s (.one (.ptr b (Nat.add o off)))) H []
    | .s (.ep cs) => fc (cs.drop off) fun cs => K (.s (.ep cs)) H []
    | .s (.lp b t j o) => K (.s (.lp b t j (Nat.add o off))) H []
    | _ => False)
  | .field off sz x => (match opdS τ x with
    | .s (.agg cs) => (match partS sz cs off with | some v => fv v fun v => K v H [] | none => False)
    | _ => False)
  | .idxAddr none sz x i => (match opdS τ x, opdS τ i with
    | .s (.one (.sl t l)), .s (.one (.v (.int _ j))) => cond (Nat.beq sz (szT t)) (need (0 ≤ j ∧ j < (l.length : Int)) (∀ x, l[j.toNat]? = some x → fc (cl t x) fun cs => K (.s (.ep cs)) H [])) False
    | .s (.one (.own b n _)), .s (.one (.v (.int _ j))) => (match H[b]? with
      | some (.lst t _ _ _) => cond (Nat.beq sz (szT t)) (need (0 ≤ j ∧ j < (n : Int)) (K (.s (.lp b t j.toNat 0)) H [])) False
      | _ => False)
    | _, _ => False)
  | .idxAddr (some n) sz x i => (match opdS τ x, opdS τ i with
    | .s (.one (.ptr b off)), .s (.one (.v (.int _ j))) => need (0 ≤ j ∧ j < (n : Int)) (K (.s (.one (.ptr b (Nat.add off (Nat.mul j.toNat sz))))) H [])
    | .s (.ep cs), .s (.one (.v (.int _ j))) => need (0 ≤ j ∧ j < (n : Int)) (fc ((cs.drop (Nat.mul j.toNat sz)).take sz) fun cs => K (.s (.ep cs)) H [])
    | _, _ => False)
  | .idx len 1 none x i => (match opdS τ x, opdS τ i with
    | .s (.agg (.v (.int k a) :: r)), .s (.one (.v (.int _ j))) => (match intsOf k (.v (.int k a) :: r) with
      | some l => cond (Nat.beq len l.length) (need (0 ≤ j ∧ j < (len : Int)) (K (sv (.int k (tab l j))) H [])) False
      | none => False)
    | .s (.agg cs), .s (.one (.v (.int _ j))) => need (0 ≤ j ∧ j < (len : Int)) (match partS none cs (Nat.mul j.toNat 1) with | some v => fv v fun v => K v H [] | none => False)
    | _, _ => False)
  | .idx len sz o x i => (match opdS τ x, opdS τ i with
    | .s (.agg cs), .s (.one (.v (.int _ j))) => need (0 ≤ j ∧ j < (len : Int)) (match partS o cs (Nat.mul j.toNat sz) with | some v => fv v fun v => K v H [] | none => False)
    | _, _ => False)
  | .idxS x i => (match opdS τ x, opdS τ i with
    | .s (.one (.v (.string s))), .s (.one (.v (.int _ j))) => need (0 ≤ j ∧ j < (s.size : Int)) (K (sv (.int .u8 (byteAt s j))) H [])
    | _, _ => False)
  | .ext x i => (match opdS τ x with
    | .tup xs => (match xs[i]? with | some v => K (.s v) H [] | none => False)
    | _ => False)
  | .nilCheck x => (match opdS τ x with
    | .s (.one (.ptr b o)) => K (.s (.one (.ptr b o))) H []
    | .s (.ep cs) => K (.s (.ep cs)) H []
    | .s (.lp b t j o) => K (.s (.lp b t j o)) H []
    | .clo f a b => K (.clo f a b) H []
    | _ => False)
  | .lenO true x => (match opdS τ x with
    | .s (.one (.v (.string s))) => K (sv (.int .i64 s.size)) H []
    | _ => False)
  | .lenO false x => (match opdS τ x with
    | .s (.one (.sl _ l)) => K (sv (.int .i64 l.length)) H []
    | .s (.one (.own _ n _)) => K (sv (.int .i64 n)) H []
    | .s (.one (.v (.slice none n _))) => K (sv (.int .i64 n)) H []
    | _ => False)
  | .lenC n => K (sv (.int .i64 n)) H []
  | .minmax b [x, y] => (match opdS τ x, opdS τ y with
    | .s (.one (.v (.int k m))), .s (.one (.v (.int k' n))) => cond (kbeq k k') (match b with | true => K (sv (.int k (max m n))) H [] | false => K (sv (.int k (min m n))) H []) False
    | _, _ => False)
  | .append e sz bytes s x => vappend H e sz bytes (opdS τ s) (opdS τ x) K
  | _ => False

end Go.Bx

namespace Go.Bx
variable {τ : SFr} {H : SH} {K : VK}

theorem ok_same {op : AOp} {v : SV} (hk : K v H []) (ho : opS (opdL (encT τ)) (encH H) op = some (v.enc, encH H)) : OpOK τ H op K := ⟨v, H, [], hk, ho, WS.refl _⟩

theorem encH_at {b : Nat} {o : Ob} (h : H[b]? = some o) : hget (encH H) b = o.enc := by rw [encH_get, h]
theorem enc_lst {t : Ty} {l : List (den t)} {nl : Bool} {e : TypeId} (h : l ≠ []) : (Ob.lst t l nl e).enc = some ⟨cvs t l, e, true⟩ := by
  cases l with
  | nil => exact absurd rfl h
  | cons x l => cases nl <;> rfl
theorem enc_lst_lt {t : Ty} {l : List (den t)} {nl : Bool} {e : TypeId} {j : Nat} (h : j < l.length) : (Ob.lst t l nl e).enc = some ⟨cvs t l, e, true⟩ := enc_lst (by intro hh; rw [hh] at h; simp at h)
theorem enc_lst_f {t : Ty} {l : List (den t)} {e : TypeId} : (Ob.lst t l false e).enc = some ⟨cvs t l, e, true⟩ := rfl

theorem partS_lst {t : Ty} {l : List (den t)} {j off : Nat} {x : den t} {sz : Option Nat} {v : SV} (hx : l[j]? = some x) (h : partS sz (cl t x) off = some v) : partA sz (cvs t l) (j * szT t + off) = some v.enc := by
  have h2 := partS_ok h
  rw [encs_cl] at h2
  have he := cvs_elem t l j x hx
  have hlt : j < l.length := (List.getElem?_eq_some_iff.1 hx).1
  have hle : (j + 1) * szT t ≤ (cvs t l).length := by rw [cvs_length]; exact Nat.mul_le_mul_right _ hlt
  rw [Nat.succ_mul] at hle
  cases sz with
  | none =>
    simp only [partA] at h2 ⊢
    rw [← he] at h2
    rw [List.getElem?_take] at h2
    split at h2
    · rw [List.getElem?_drop] at h2; exact h2
    · cases h2
  | some n =>
    simp only [partA] at h2 ⊢
    rw [cv_length] at h2
    rw [Bool.cond_eq_ite] at h2
    split at h2
    · rename_i hb
      have hb' := Nat.le_of_ble_eq_true hb
      have hb2 : Nat.ble (j * szT t + off + n) (cvs t l).length = true := Nat.ble_eq_true_of_le (by omega)
      rw [hb2, cond_true, ← h2, ← he]
      congr 3
      rw [List.drop_take, List.take_take, List.drop_drop, Nat.min_eq_left (by omega)]
    · cases h2

theorem vload_ok {sz : Option Nat} {x : Operand} (h : vload H sz (opdS τ x) K) : OpOK τ H (.load sz x) K := by
  unfold vload at h
  simp only [fv_iff] at h
  split at h
  · rename_i b off hx
    split at h
    · rename_i cs e hb
      split at h
      · rename_i v hv
        refine ok_same h ?_
        simp only [S_load, opd_enc, hx, SV.enc, S0.enc, L.enc, readH, encH_at hb, Ob.enc, partS_ok hv]
      · cases h
    · cases h
  · rename_i cs hx
    split at h
    · rename_i v hv
      refine ok_same h ?_
      have hp := partS_ok hv
      simp only [S_load, opd_enc, hx, SV.enc, S0.enc]
      rw [hp]; rfl
    · cases h
  · rename_i b t j off hx
    split at h
    · rename_i t' l nl e hb
      rw [Bool.cond_eq_ite] at h
      split at h
      · rename_i ht
        have := Ty.eq_of_beq ht
        subst this
        obtain ⟨hj, h⟩ := need_iff.1 h
        have hx2 : l[j]? = some l[j] := List.getElem?_eq_getElem hj
        have h := h _ hx2
        split at h
        · rename_i v hv
          refine ok_same h ?_
          simp only [S_load, opd_enc, hx, SV.enc, S0.enc, readH, encH_at hb, enc_lst_lt hj, partS_lst hx2 hv]
        · cases h
      · cases h
    · cases h
  · cases h

theorem setAt_lst {t : Ty} {l : List (den t)} {j off : Nat} {x y : den t} {vs : List L} (hx : l[j]? = some x) (hle : off + vs.length ≤ szT t) (h : uncl false t (setAtL (cl t x) off vs) = some (y, [])) :
    setAt (cvs t l) (j * szT t + off) (encs vs) = cvs t (l.set j y) := by
  have hlt : j < l.length := (List.getElem?_eq_some_iff.1 hx).1
  have hy := uncl_eq t h
  simp only [encs, List.map_nil, List.append_nil] at hy
  have hy2 : setAt (cv t x) off (encs vs) = cv t y := by
    have := setAtL_enc (cl t x) off vs
    rw [encs_cl] at this
    rw [← this]; exact hy
  rw [← cvs_set t l j y hlt, ← hy2]
  have he := cvs_elem t l j x hx
  have hle2 : (j + 1) * szT t ≤ (cvs t l).length := by rw [cvs_length]; exact Nat.mul_le_mul_right _ hlt
  rw [Nat.succ_mul] at hle2
  have hl1 : (setAt (cv t x) off (encs vs)).length = szT t := by rw [hy2, cv_length]
  unfold setAt at hl1 ⊢
  rw [hl1, encs_length, ← he]
  simp only [List.append_assoc]
  have e1 : (cvs t l).take (j * szT t + off) = (cvs t l).take (j * szT t) ++ ((cvs t l).drop (j * szT t) |>.take (szT t)).take off := by
    rw [List.take_take, Nat.min_eq_left (by omega), List.take_add]
  have e2 : ((cvs t l).drop (j * szT t) |>.take (szT t)).drop (off + vs.length) ++ (cvs t l).drop (j * szT t + szT t) = (cvs t l).drop (j * szT t + off + vs.length) := by
    have : (cvs t l).drop (j * szT t) = ((cvs t l).drop (j * szT t)).take (szT t) ++ (cvs t l).drop (j * szT t + szT t) := by
      rw [← List.drop_drop, List.take_append_drop]
    have h3 : (cvs t l).drop (j * szT t + off + vs.length) = ((cvs t l).drop (j * szT t)).drop (off + vs.length) := by rw [List.drop_drop]; congr 1; omega
    rw [h3]
    conv => rhs; rw [this]
    rw [List.drop_append_of_le_length]
    rw [List.length_take, List.length_drop]
    omega
  rw [e1, ← e2]
  simp only [List.append_assoc]

theorem vstore_ok {sz : Nat} {x v : Operand} (h : vstore H sz (opdS τ x) (opdS τ v) K) : OpOK τ H (.store sz x v) K := by
  unfold vstore at h
  simp only [fc_iff, fh_iff] at h
  split at h
  · cases h
  · rename_i vs hv
    obtain ⟨h1, h2⟩ := cellsS_ok hv
    have hsz : (opdS τ v).enc.cells.size = vs.length := by rw [← Array.length_toList, h2, encs_length]
    split at h
    · rename_i b off hx
      split at h
      · rename_i cs e hb
        rw [Bool.cond_eq_ite] at h
        split at h
        · rename_i hc
          have hg : hget (encH H) b = some ⟨encs cs, e, true⟩ := by rw [encH_at hb]; rfl
          refine ⟨_, _, _, h, ?_, ?_⟩
          · have hxe : (opdS τ x).enc = .pointer (some ⟨b, off, none⟩) := by rw [hx]; rfl
            have : (true && storable (opdS τ v).enc && Nat.beq (opdS τ v).enc.cells.size sz && Nat.ble (off + sz) (encs cs).length) = true := by
              rw [h1, hsz, encs_length]
              exact hc
            rw [S_store, opd_enc, opd_enc, hxe]
            simp only [hg]
            rw [this, cond_true, encH_set (a := ⟨encs (setAtL cs off vs), e, true⟩) (h := rfl)]
            rw [setAtL_enc, h2]
            rfl
          · rw [encH_set (a := ⟨encs (setAtL cs off vs), e, true⟩) (h := rfl)]
            exact WS.put hg
        · cases h
      · cases h
    · rename_i b t j off hx
      split at h
      · rename_i t' l nl e hb
        rw [Bool.cond_eq_ite] at h
        split at h
        · rename_i hc
          simp only [Bool.and_eq_true] at hc
          obtain ⟨ht, hlen, hle⟩ := hc
          have := Ty.eq_of_beq ht
          subst this
          obtain ⟨hj, h⟩ := need_iff.1 h
          have hx2 : l[j]? = some l[j] := List.getElem?_eq_getElem hj
          have h := h _ hx2
          split at h
          · rename_i y hy
            have hlen' : vs.length = sz := Nat.eq_of_beq_eq_true hlen
            have hle' : off + sz ≤ szT t' := Nat.le_of_ble_eq_true hle
            have hg : hget (encH H) b = some ⟨cvs t' l, e, true⟩ := by rw [encH_at hb, enc_lst_lt hj]
            have hj2 : j < (l.set j y).length := by rw [List.length_set]; exact hj
            have hse := setAt_lst hx2 (by rw [hlen']; exact hle') hy
            refine ⟨_, _, _, h, ?_, ?_⟩
            · have hxe : (opdS τ x).enc = .pointer (some ⟨b, j * szT t' + off, none⟩) := by rw [hx]; rfl
              have hle2 : (j + 1) * szT t' ≤ (cvs t' l).length := by rw [cvs_length]; exact Nat.mul_le_mul_right _ hj
              rw [Nat.succ_mul] at hle2
              have : (true && storable (opdS τ v).enc && Nat.beq (opdS τ v).enc.cells.size sz && Nat.ble (j * szT t' + off + sz) (cvs t' l).length) = true := by
                rw [h1, hsz, hlen', Nat.beq_refl, Nat.ble_eq_true_of_le (by omega)]; rfl
              rw [S_store, opd_enc, opd_enc, hxe]
              simp only [hg]
              rw [this, cond_true, encH_set (a := ⟨cvs t' (l.set j y), e, true⟩) (h := enc_lst_lt hj2)]
              rw [h2, hse]; rfl
            · rw [encH_set (a := ⟨cvs t' (l.set j y), e, true⟩) (h := enc_lst_lt hj2)]
              exact WS.put hg
          · cases h
        · cases h
      · cases h
    · cases h

end Go.Bx

namespace Go.Bx
set_option maxRecDepth 4000
variable {τ : SFr} {H : SH} {K : VK} {te : TE}

theorem opS_append {ρ : Operand → Value} {H : Hp} {e : TypeId} {sz bytes : Nat} {s x : Operand} : opS ρ H (.append e sz bytes s x) = appendH e sz bytes (ρ s) (ρ x) H := rfl

theorem elems_ok {x : SV} {J : (t : Ty) → List (den t) → Prop} (h : elems H x J) : ∃ (t : Ty) (m : List (den t)), J t m ∧ appCellsH (encH H) (szT t) x.enc = some (m.length, cvs t m) := by
  unfold elems at h
  split at h
  · rename_i t l
    refine ⟨t, l, h, ?_⟩
    simp only [SV.enc, S0.enc, L.enc, appCellsH]
    rw [cvs_length, Nat.beq_refl]; rfl
  · rename_i b n nl
    split at h
    · rename_i t l nl' e hb
      obtain ⟨hn, h⟩ := need_iff.1 h
      refine ⟨t, l, h, ?_⟩
      simp only [SV.enc, S0.enc, L.enc]
      cases l with
      | nil =>
        simp only [List.length_nil] at hn
        subst hn
        cases nl <;> rfl
      | cons y r =>
        have h0 : Nat.beq n 0 = false := beqF (by rw [← hn]; simp)
        rw [h0]
        have hc : cond (cond nl false false) (Value.slice none 0 0) (Value.slice (some ⟨b, 0, none⟩) n 1) = .slice (some ⟨b, 0, none⟩) n 1 := by cases nl <;> rfl
        rw [hc]
        have hg : hget (encH H) b = some ⟨cvs t (y :: r), e, true⟩ := by rw [encH_at hb, enc_lst (by simp)]
        simp only [appCellsH, h0, cond_false, cellsH, hg, Nat.zero_add, List.drop_zero]
        rw [← hn, cvs_length, Nat.ble_eq_true_of_le (Nat.le_refl _), cond_true]
        simp only
        rw [List.take_of_length_le (by rw [cvs_length]; exact Nat.le_refl _)]
    · cases h
  · cases h

theorem emp {α : Type} (m : List α) : m = [] ∨ (m ≠ [] ∧ m.isEmpty = false) := by
  cases m with
  | nil => exact .inl rfl
  | cons x r => exact .inr ⟨by simp, rfl⟩

theorem vappend_ok {e : TypeId} {sz bytes : Nat} {s x : Operand} (h : vappend H e sz bytes (opdS τ s) (opdS τ x) K) : OpOK τ H (.append e sz bytes s x) K := by
  unfold vappend at h
  simp only [fh_iff] at h
  obtain ⟨t, m, h, ha⟩ := elems_ok h
  rw [Bool.cond_eq_ite] at h
  split at h
  · rename_i hsz
    have hsz' : sz = szT t := Nat.eq_of_beq_eq_true hsz
    subst hsz'
    split at h
    · rename_i l c hs
      rw [Bool.cond_eq_ite] at h
      split at h
      · rename_i hl
        have hse : (opdS τ s).enc = .slice none l c := by rw [hs]; rfl
        rcases emp m with rfl | ⟨hm, hme⟩
        · refine ok_same (v := sv (.slice none 0 0)) h ?_
          rw [opS_append, opd_enc, opd_enc, hse]
          unfold appendH
          rw [ha]
          dsimp only
          rw [hl]; rfl
        · rw [hme] at h
          have h : need ((m.length : Int) * bytes ≤ lim ∧ (m.length : Int) ≤ lim) _ := h
          obtain ⟨⟨h1, h2⟩, hk⟩ := need_iff.1 h
          have hk := flen_ok hk
          unfold lim at h1 h2
          refine ⟨_, _, _, hk, ?_, ?_⟩
          · rw [opS_append, opd_enc, opd_enc, hse]
            unfold appendH
            rw [ha]
            dsimp only
            have e1 : Nat.beq m.length 0 = false := beqF (by simpa using hm)
            have e2 : (Nat.ble (m.length * bytes) 140737488355328 && Nat.ble m.length 140737488355328) = true := by
              rw [Nat.ble_eq_true_of_le, Nat.ble_eq_true_of_le]
              · rfl
              · omega
              · rw [← Int.natCast_mul] at h1; omega
            rw [hl, e1, e2, cond_true, cond_false, cond_true, encH_push (a := ⟨cvs t m, e, true⟩) (h := enc_lst hm), encH_length]
            have hre : (SV.s (S0.one (L.own H.length m.length true))).enc = .slice (some ⟨H.length, 0, none⟩) m.length 1 := by
              simp only [SV.enc, S0.enc, L.enc, e1]; rfl
            rw [hre]
          · rw [encH_push (a := ⟨cvs t m, e, true⟩) (h := enc_lst hm)]
            exact WS.push _ _
      · cases h
    · rename_i b n nl hs
      split at h
      · rename_i t' l nl' e' hb
        split at h
        · rename_i htt
          have := Ty.eq_of_beq htt
          subst this
          simp only at h
          rw [Bool.cond_eq_ite] at h
          split at h
          · rename_i hc
            simp only [Bool.and_eq_true, beq_iff_eq] at hc
            obtain ⟨hee, hnl, hpos⟩ := hc
            have hee' : e' = e := Nat.eq_of_beq_eq_true hee
            subst hee' hnl
            have hpos' : 0 < szT t := by
              have : Nat.ble 1 (szT t) = true := hpos
              exact Nat.le_of_ble_eq_true this
            obtain ⟨hn, h⟩ := need_iff.1 h
            subst hn
            have hse : (opdS τ s).enc = cond (cond nl' (Nat.beq l.length 0) false) (.slice none 0 0) (.slice (some ⟨b, 0, none⟩) l.length 1) := by rw [hs]; rfl
            rcases emp m with rfl | ⟨hm, hme⟩
            · refine ok_same (v := .s (.one (.own b l.length nl'))) h ?_
              have hre : (SV.s (S0.one (L.own b l.length nl'))).enc = cond (cond nl' (Nat.beq l.length 0) false) (.slice none 0 0) (.slice (some ⟨b, 0, none⟩) l.length 1) := rfl
              rw [opS_append, opd_enc, opd_enc, hse, hre]
              unfold appendH
              rw [ha]
              dsimp only
              cases cond nl' (Nat.beq l.length 0) false <;> rfl
            · rw [hme] at h
              have h : need (((l ++ m).length : Int) * bytes ≤ lim ∧ ((l ++ m).length : Int) ≤ lim) _ := h
              obtain ⟨⟨h1, h2⟩, hk⟩ := need_iff.1 h
              have hk := flen_ok hk
              unfold lim at h1 h2
              have hne : (l ++ m) ≠ [] := by simp [hm]
              have hlen : l.length + m.length = (l ++ m).length := by rw [List.length_append]
              have h0' : Nat.beq (l ++ m).length 0 = false := beqF (by simp [hm])
              have e2 : (Nat.ble ((l ++ m).length * bytes) 140737488355328 && Nat.ble (l ++ m).length 140737488355328) = true := by
                rw [Nat.ble_eq_true_of_le, Nat.ble_eq_true_of_le]
                · rfl
                · omega
                · rw [← Int.natCast_mul] at h1; omega
              have hblt : b < (encH H).length := by
                rw [encH_length]
                exact (List.getElem?_eq_some_iff.1 hb).1
              refine ⟨_, _, _, hk, ?_, ?_⟩
              · rw [opS_append, opd_enc, opd_enc, hse]
                have hre : (SV.s (S0.one (L.own H.length (l ++ m).length nl'))).enc = .slice (some ⟨(encH H).length, 0, none⟩) (l ++ m).length 1 := by
                  simp only [SV.enc, S0.enc, L.enc, h0', encH_length]
                  cases nl' <;> rfl
                rw [hre, encH_push (a := ⟨cvs t (l ++ m), e', true⟩) (h := enc_lst hne), encH_kill]
                have e1 : Nat.beq m.length 0 = false := beqF (by simpa using hm)
                cases l with
                | nil =>
                  cases nl' with
                  | true =>
                    unfold appendH
                    rw [ha]
                    rw [List.nil_append] at e2
                    have e9 : cond (cond true (Nat.beq ([] : List (den t)).length 0) false) (Value.slice none 0 0) (Value.slice (some ⟨b, 0, none⟩) ([] : List (den t)).length 1) = .slice none 0 0 := rfl
                    rw [e9, List.nil_append]
                    dsimp only
                    rw [e1, e2, Nat.beq_refl, cond_false, cond_true, cond_true]
                    have : hkill (encH H) b = encH H := by
                      unfold hkill
                      apply List.ext_getElem?
                      intro i
                      by_cases hi : i = b
                      · subst hi
                        rw [List.getElem?_set_self hblt]
                        simp only [encH, List.getElem?_map, hb]; rfl
                      · rw [List.getElem?_set_ne (Ne.symm hi)]
                    rw [this]
                  | false =>
                    have hg : hget (encH H) b = some ⟨cvs t [], e', true⟩ := by rw [encH_at hb]; rfl
                    unfold appendH
                    rw [ha]
                    rw [List.nil_append] at e2
                    have e9 : cond (cond false (Nat.beq ([] : List (den t)).length 0) false) (Value.slice none 0 0) (Value.slice (some ⟨b, 0, none⟩) ([] : List (den t)).length 1) = .slice (some ⟨b, 0, none⟩) 0 1 := rfl
                    rw [e9, List.nil_append]
                    dsimp only
                    rw [hg]
                    dsimp only
                    rw [Nat.zero_add]
                    have e3 : Nat.ble (m.length * szT t) (cvs t []).length = false := by
                      rw [cvs_length]
                      cases hh : Nat.ble (m.length * szT t) (([] : List (den t)).length * szT t) with
                      | false => rfl
                      | true =>
                        have := Nat.le_of_ble_eq_true hh
                        have hpm : 0 < m.length * szT t := Nat.mul_pos (by have := hm; cases m <;> simp_all) hpos'
                        simp only [List.length_nil, Nat.zero_mul] at this
                        omega
                    have e4 : Nat.ble (0 * szT t) (cvs t ([] : List (den t))).length = true := by rw [Nat.zero_mul]; rfl
                    have e6 : (true && Nat.beq 1 1 && Nat.beq e' e' && Nat.ble (m.length * bytes) 140737488355328 && Nat.ble m.length 140737488355328 && true) = true := by
                      simp only [Nat.beq_refl, Bool.and_true, Bool.true_and]; exact e2
                    rw [e1, e3, e4, e6]
                    simp only [cond_true, cond_false, encH_length]
                    simp [cvs, hkill, encH_length]
                | cons a l =>
                  have hg : hget (encH H) b = some ⟨cvs t (a :: l), e', true⟩ := by rw [encH_at hb, enc_lst (by simp)]
                  have h0 : Nat.beq (a :: l).length 0 = false := rfl
                  rw [h0, show cond (cond nl' false false) (Value.slice none 0 0) (Value.slice (some ⟨b, 0, none⟩) (a :: l).length 1) = .slice (some ⟨b, 0, none⟩) (a :: l).length 1 by cases nl' <;> rfl]
                  unfold appendH
                  rw [ha]
                  dsimp only
                  rw [hg]
                  dsimp only
                  have e3 : Nat.ble (((a :: l).length + m.length) * szT t) (cvs t (a :: l)).length = false := by
                    rw [cvs_length]
                    cases hh : Nat.ble (((a :: l).length + m.length) * szT t) ((a :: l).length * szT t) with
                    | false => rfl
                    | true =>
                      have := Nat.le_of_ble_eq_true hh
                      have hpm : 0 < m.length * szT t := Nat.mul_pos (by have := hm; cases m <;> simp_all) hpos'
                      rw [Nat.add_mul] at this
                      omega
                  have e4 : Nat.ble ((a :: l).length * szT t) (cvs t (a :: l)).length = true := by rw [cvs_length]; exact Nat.ble_eq_true_of_le (Nat.le_refl _)
                  have e5 : (cvs t (a :: l)).take ((a :: l).length * szT t) = cvs t (a :: l) := List.take_of_length_le (by rw [cvs_length]; exact Nat.le_refl _)
                  rw [← hlen] at e2
                  rw [e1, e3, e4, e5]
                  have e6 : (true && Nat.beq 1 1 && Nat.beq e' e' && Nat.ble (((a :: l).length + m.length) * bytes) 140737488355328 && Nat.ble ((a :: l).length + m.length) 140737488355328 && true) = true := by
                    simp only [Nat.beq_refl, Bool.and_true, Bool.true_and]; exact e2
                  rw [e6, cond_false, cond_true, cond_false, hlen]
                  simp [cvs, hkill, encH_length]
              · rw [encH_push (a := ⟨cvs t (l ++ m), e', true⟩) (h := enc_lst hne), encH_kill]
                refine ⟨by simp [hpush, hkill], fun i hi hn => ?_⟩
                rw [hget_push, if_neg (by simp [hkill]; omega), hget_kill, if_neg (by simpa using hn)]
          · cases h
        · cases h
      · cases h
    · cases h
  · cases h

end Go.Bx

namespace Go.Bx
set_option maxRecDepth 4000
variable {τ : SFr} {H : SH} {K : VK} {te : TE}

theorem encs_vs (l : List Value) : encs (l.map L.v) = l := encs_v l
theorem opdS_parts (τ : SFr) (parts : List (Nat × Nat × Operand)) : (parts.map fun p => (p.1, p.2.1, opdS τ p.2.2)).map (fun p => (p.1, p.2.1, p.2.2.enc)) = parts.map fun p => (p.1, p.2.1, opdL (encT τ) p.2.2) := by
  rw [List.map_map]
  apply List.map_congr_left
  intro p _
  simp only [Function.comp, opd_enc]
theorem map_opd (τ : SFr) (l : List Operand) : (l.map (opdS τ)).map SV.enc = l.map (opdL (encT τ)) := by
  rw [List.map_map]
  apply List.map_congr_left
  intro p _
  simp only [Function.comp, opd_enc]
theorem opt_opd (τ : SFr) (o : Option Operand) : (o.map (opdS τ)).map SV.enc = o.map (opdL (encT τ)) := by
  cases o with
  | none => rfl
  | some x => simp only [Option.map_some, opd_enc]

theorem vop_ok {op : AOp} (h : vop te τ H op K) : OpOK τ H op K := by
  cases op with
  | mv x => exact ok_same h (by rw [S_mv, opd_enc])
  | pick c a b =>
    simp only [vop, fv_iff, fc_iff, fh_iff] at h
    split at h
    · rename_i t hc
      have hce : (opdS τ c).enc = .bool t := by rw [hc]; rfl
      cases t with
      | true => exact ok_same h (by rw [S_pick, opd_enc, opd_enc, opd_enc, hce])
      | false => exact ok_same h (by rw [S_pick, opd_enc, opd_enc, opd_enc, hce])
    · cases h
  | alloc e zc =>
    simp only [vop, fv_iff, fc_iff, fh_iff] at h
    have h := flen_ok h
    refine ⟨_, _, _, h, ?_, ?_⟩
    · rw [S_alloc, encH_push (a := ⟨zc, e, true⟩) (h := by simp only [Ob.enc, encs_v]), encH_length]; rfl
    · rw [encH_push (a := ⟨zc, e, true⟩) (h := by simp only [Ob.enc, encs_v])]
      exact WS.push _ _
  | box e x =>
    simp only [vop, fv_iff, fc_iff, fh_iff] at h
    split at h
    · rename_i cs hcs
      have h := flen_ok h
      obtain ⟨h1, h2⟩ := cellsS_ok hcs
      refine ⟨_, _, _, h, ?_, ?_⟩
      · rw [S_box, opd_enc, h1, h2, encH_push (a := ⟨encs cs, e, true⟩) (h := rfl), encH_length]; rfl
      · rw [encH_push (a := ⟨encs cs, e, true⟩) (h := rfl)]
        exact WS.push _ _
    · cases h
  | build zc parts =>
    simp only [vop, fv_iff, fc_iff, fh_iff] at h
    split at h
    · rename_i cs hcs
      refine ok_same h ?_
      have := fillS_ok _ hcs
      rw [encs_v, opdS_parts] at this
      rw [S_build, this]; rfl
    · cases h
  | buildSlice e zc len parts =>
    simp only [vop, fv_iff, fc_iff, fh_iff] at h
    split at h
    · rename_i t cs hte hcs
      split at h
      · rename_i l hl
        have := fillS_ok _ hcs
        rw [encs_v, opdS_parts] at this
        obtain ⟨u1, u2⟩ := unclN_ok t len hl
        have h := flen_ok h
        refine ⟨_, _, _, h, ?_, ?_⟩
        · rw [S_buildSlice, this, encH_push (a := ⟨cvs t l, e, true⟩) (h := rfl), encH_length, u1]; rfl
        · rw [encH_push (a := ⟨cvs t l, e, true⟩) (h := rfl)]
          exact WS.push _ _
      · cases h
    · cases h
  | load sz x => exact vload_ok h
  | store sz x v => exact vstore_ok h
  | bin op ek x y =>
    simp only [vop, fv_iff, fc_iff, fh_iff] at h
    split at h
    · rename_i a b ha hb
      obtain ⟨v, hv, hk⟩ := vbin_ok h
      refine ok_same hk ?_
      have hae : (opdS τ x).enc = a := by rw [ha]; rfl
      have hbe : (opdS τ y).enc = b := by rw [hb]; rfl
      rw [S_bin, opd_enc, opd_enc, hae, hbe, hv]; rfl
    · rename_i xs ys ha hb
      have hae : (opdS τ x).enc = .agg (encs xs).toArray := by rw [ha]; rfl
      have hbe : (opdS τ y).enc = .agg (encs ys).toArray := by rw [hb]; rfl
      split at h
      · rename_i ks
        split at h
        · rename_i r hr
          refine ok_same h ?_
          have hf := flatS_ok hr
          rw [S_bin, opd_enc, opd_enc, hae, hbe]
          simp only [binA, otherEq, hf]; rfl
        · cases h
      · rename_i ks
        split at h
        · rename_i r hr
          refine ok_same h ?_
          have hf := flatS_ok hr
          rw [S_bin, opd_enc, opd_enc, hae, hbe]
          simp only [binA, otherEq, hf]; rfl
        · cases h
      · cases h
    · cases h
  | un op x =>
    simp only [vop, fv_iff, fc_iff, fh_iff] at h
    split at h
    · rename_i a ha
      split at h
      · rename_i v hv
        refine ok_same h ?_
        have hae : (opdS τ x).enc = a := by rw [ha]; rfl
        rw [S_un, opd_enc, hae, hv]; rfl
      · cases h
    · cases h
  | conv k x =>
    simp only [vop, fv_iff, fc_iff, fh_iff] at h
    split at h
    · rename_i k' n ha
      refine ok_same h ?_
      have hae : (opdS τ x).enc = .int k' n := by rw [ha]; rfl
      rw [S_conv, opd_enc, hae]; rfl
    · cases h
  | strMv x =>
    simp only [vop, fv_iff, fc_iff, fh_iff] at h
    split at h
    · rename_i s ha
      refine ok_same h ?_
      have hae : (opdS τ x).enc = .string s := by rw [ha]; rfl
      rw [S_strMv, opd_enc, hae]; rfl
    · cases h
  | mkF f first cap =>
    simp only [vop, fv_iff, fc_iff, fh_iff] at h
    split at h
    · rename_i a b ha hb
      refine ok_same h ?_
      have h1 := allS_ok ha
      have h2 := allS_ok hb
      rw [map_opd] at h1 h2
      rw [S_mkF, h1, h2]; rfl
    · cases h
  | makeSlice e zc bytes l c =>
    simp only [vop, fv_iff, fc_iff, fh_iff] at h
    split at h
    · rename_i t ka a kb b hte hl hc
      split at h
      · rename_i z hz
        obtain ⟨⟨hab, h1, h2, h3⟩, hk⟩ := need_iff.1 h
        have hk := flen_ok hk
        subst hab
        unfold lim at h2 h3
        have hle : (opdS τ l).enc = .int ka a := by rw [hl]; rfl
        have hce : (opdS τ c).enc = .int kb a := by rw [hc]; rfl
        have hz' := uncl_eq t hz
        rw [encs_v] at hz'
        simp only [encs, List.map_nil, List.append_nil] at hz'
        have hfl : (List.replicate a.toNat zc).flatten = cvs t (List.replicate a.toNat z) := by
          rw [hz']; simp [cvs, List.flatMap, List.map_replicate]
        refine ⟨_, _, _, hk, ?_, ?_⟩
        · have e1 : (decide (0 ≤ a) && decide (a ≤ a) && decide (a * bytes ≤ 140737488355328) && decide (a ≤ 140737488355328)) = true := by
            simp only [Bool.and_eq_true, decide_eq_true_eq]
            exact ⟨⟨⟨h1, Int.le_refl _⟩, h2⟩, h3⟩
          have e2 : opS (opdL (encT τ)) (encH H) (.makeSlice e zc bytes l c) = some (.slice (some ⟨(encH H).length, 0, none⟩) a.toNat 1, hpush (encH H) ⟨(List.replicate a.toNat zc).flatten, e, true⟩) := by
            simp only [opS]
            rw [opd_enc, opd_enc, hle, hce]
            dsimp only
            rw [e1]; rfl
          rw [e2, encH_push (a := ⟨cvs t (List.replicate a.toNat z), e, true⟩) (h := rfl), hfl, encH_length]; rfl
        · rw [encH_push (a := ⟨cvs t (List.replicate a.toNat z), e, true⟩) (h := rfl)]
          exact WS.push _ _
      · cases h
    · cases h
  | slcS x lo hi =>
    simp only [vop, fv_iff, fc_iff, fh_iff] at h
    split at h
    · rename_i s hx
      obtain ⟨a, b, h1, h2, h3, h4, hk⟩ := vbnd_ok h
      rw [opt_opd] at h1 h2
      refine ok_same hk ?_
      exact S_slcS _ (by rw [opd_enc, hx]; rfl) h1 h2
    · cases h
  | slc sz x lo hi =>
    simp only [vop, fv_iff, fc_iff, fh_iff] at h
    split at h
    · rename_i t l hx
      rw [Bool.cond_eq_ite] at h
      split at h
      · rename_i hsz
        have hsz' := Nat.eq_of_beq_eq_true hsz
        subst hsz'
        obtain ⟨a, b, h1, h2, h3, h4, hk⟩ := vbnd_ok h
        rw [opt_opd] at h1 h2
        refine ok_same hk ?_
        rw [S_slc_b (n := l.length) (xs := (cvs t l).toArray) (ys := #[]) (h := b) (l := a) _ (by rw [opd_enc, hx]; rfl) h1 h2]
        have e1 : ((cvs t l).drop (a * szT t)).take ((b - a) * szT t) = cvs t ((l.drop a).take (b - a)) := by rw [cvs_drop, cvs_take]
        have e2 : ((l.drop a).take (b - a)).length = b - a := by rw [List.length_take, List.length_drop]; omega
        simp only [SV.enc, S0.enc, L.enc, e2, List.toList_toArray, e1]
      · cases h
    · rename_i hx
      obtain ⟨a, b, h1, h2, h3, h4, hk⟩ := vbnd_ok h
      rw [opt_opd] at h1 h2
      refine ok_same hk ?_
      exact S_slc_n (a := 0) (b := 0) (h := b) (l := a) _ (by rw [opd_enc, hx]; rfl) h1 h2
    · cases h
  | fieldAddr off x =>
    simp only [vop, fv_iff, fc_iff, fh_iff] at h
    split at h
    · rename_i b o hx
      refine ok_same h ?_
      have hxe : (opdS τ x).enc = .pointer (some ⟨b, o, none⟩) := by rw [hx]; rfl
      rw [S_fieldAddr, opd_enc, hxe]; rfl
    · rename_i cs hx
      refine ok_same h ?_
      have hxe : (opdS τ x).enc = bvP (encs cs) := by rw [hx]; rfl
      rw [S_fieldAddr, opd_enc, hxe]
      simp only [SV.enc, S0.enc, encs_drop]
    · rename_i b t j o hx
      refine ok_same h ?_
      have hxe : (opdS τ x).enc = .pointer (some ⟨b, j * szT t + o, none⟩) := by rw [hx]; rfl
      rw [S_fieldAddr, opd_enc, hxe]
      simp only [SV.enc, S0.enc, Nat.add_assoc]; rfl
    · cases h
  | field off sz x =>
    simp only [vop, fv_iff, fc_iff, fh_iff] at h
    split at h
    · rename_i cs hx
      split at h
      · rename_i v hv
        refine ok_same h ?_
        have hxe : (opdS τ x).enc = .agg (encs cs).toArray := by rw [hx]; rfl
        have hp := partS_ok hv
        rw [S_field, opd_enc, hxe]
        dsimp only
        rw [hp]
      · cases h
    · cases h
  | idxAddr len sz x i =>
    cases len with
    | none =>
      simp only [vop, fv_iff, fc_iff, fh_iff] at h
      split at h
      · rename_i t l k j hx hi
        rw [Bool.cond_eq_ite] at h
        split at h
        · rename_i hsz
          have hsz' := Nat.eq_of_beq_eq_true hsz
          subst hsz'
          obtain ⟨hj, h⟩ := need_iff.1 h
          have hjl : j.toNat < l.length := by omega
          have hx2 : l[j.toNat]? = some l[j.toNat] := List.getElem?_eq_getElem hjl
          refine ok_same (h _ hx2) ?_
          rw [S_idxAddr_b (n := l.length) (xs := (cvs t l).toArray) (ys := #[]) _ (by rw [opd_enc, hx]; rfl) (by rw [opd_enc, hi]; rfl) hj]
          simp only [SV.enc, S0.enc, encs_cl, List.toList_toArray]
          rw [cvs_elem t l _ _ hx2]
        · cases h
      · rename_i b n nl k j hx hi
        split at h
        · rename_i t l nl' e hb
          rw [Bool.cond_eq_ite] at h
          split at h
          · rename_i hsz
            have hsz' := Nat.eq_of_beq_eq_true hsz
            subst hsz'
            obtain ⟨hj, h⟩ := need_iff.1 h
            refine ok_same h ?_
            have h0 : Nat.beq n 0 = false := beqF (by omega)
            rw [S_idxAddr_s (a := ⟨b, 0, none⟩) (n := n) (c := 1) _ (by
              rw [opd_enc, hx]
              simp only [SV.enc, S0.enc, L.enc, h0]
              cases nl <;> rfl) (by rw [opd_enc, hi]; rfl) hj]
            simp only [SV.enc, S0.enc, Nat.zero_add, Nat.add_zero]
          · cases h
        · cases h
      · cases h
    | some n =>
      simp only [vop, fv_iff, fc_iff, fh_iff] at h
      split at h
      · rename_i b off k j hx hi
        obtain ⟨hj, h⟩ := need_iff.1 h
        refine ok_same h ?_
        rw [S_idxAddr_p (a := ⟨b, off, none⟩) _ (by rw [opd_enc, hx]; rfl) (by rw [opd_enc, hi]; rfl) hj]; rfl
      · rename_i cs k j hx hi
        obtain ⟨hj, h⟩ := need_iff.1 h
        refine ok_same h ?_
        rw [S_idxAddr_q (t := 0) (nm := "") (xs := (encs cs).toArray) (ys := #[]) _ (by rw [opd_enc, hx]; rfl) (by rw [opd_enc, hi]; rfl) hj]
        simp only [SV.enc, S0.enc, encs_take, encs_drop, List.toList_toArray]; rfl
      · cases h
  | idx len sz o x i =>
    have hgen : ∀ (cs : List L) (k : IntKind) (j : Int), opdS τ x = .s (.agg cs) → opdS τ i = .s (.one (.v (.int k j))) → (0 ≤ j ∧ j < (len : Int)) → (match partS o cs (Nat.mul j.toNat sz) with | some v => K v H [] | none => False) → OpOK τ H (.idx len sz o x i) K := by
      intro cs k j hx hi hj h
      split at h
      · rename_i v hv
        refine ok_same h ?_
        exact S_idx (cs := (encs cs).toArray) _ (by rw [opd_enc, hx]; rfl) (by rw [opd_enc, hi]; rfl) hj (by rw [List.toList_toArray]; exact partS_ok hv)
      · cases h
    unfold vop at h
    simp only [fv_iff, fc_iff, fh_iff] at h
    split at h <;> first | (rename_i heq; cases heq; done) | skip
    all_goals first | contradiction | skip
    · rename_i heq
      cases heq
      split at h
      · rename_i k a r k' j hx hi
        split at h
        · rename_i l hl
          rw [Bool.cond_eq_ite] at h
          split at h
          · rename_i hlen
            obtain ⟨hj, h⟩ := need_iff.1 h
            have hlen' : len = l.length := Nat.eq_of_beq_eq_true hlen
            refine ok_same h ?_
            refine S_idx (cs := (encs (.v (.int k a) :: r)).toArray) _ (by rw [opd_enc, hx]; rfl) (by rw [opd_enc, hi]; rfl) hj ?_
            have hjl : j.toNat < l.length := by omega
            rw [List.toList_toArray, intsOf_ok hl]
            simp only [partA, Nat.mul_one, List.getElem?_map, List.getElem?_eq_getElem hjl, Option.map_some, sv, SV.enc, S0.enc, L.enc, tab, List.getD_eq_getElem?_getD, Option.getD_some]
          · cases h
        · cases h
      · rename_i cs k j hx hi _
        obtain ⟨hj, h⟩ := need_iff.1 h
        exact hgen cs k j ‹_› ‹_› hj h
      · cases h
    · rename_i heq
      cases heq
      split at h
      · rename_i cs k j hx hi
        obtain ⟨hj, h⟩ := need_iff.1 h
        exact hgen cs k j hx hi hj h
      · cases h
  | idxS x i =>
    simp only [vop, fv_iff, fc_iff, fh_iff] at h
    split at h
    · rename_i s k j hx hi
      obtain ⟨hj, h⟩ := need_iff.1 h
      refine ok_same h ?_
      have hlt : j.toNat < s.data.toList.length := by
        have : s.size = s.data.toList.length := rfl
        omega
      have hg : s.data.toList[j.toNat]? = some s.data.toList[j.toNat] := List.getElem?_eq_getElem hlt
      rw [S_idxS (s := s) (b := s.data.toList[j.toNat]) _ (by rw [opd_enc, hx]; rfl) (by rw [opd_enc, hi]; rfl) hj.1 hg]
      simp only [sv, SV.enc, S0.enc, L.enc, byteAt, hg, Option.getD_some]
    · cases h
  | ext x i =>
    simp only [vop, fv_iff, fc_iff, fh_iff] at h
    split at h
    · rename_i xs hx
      split at h
      · rename_i v hv
        refine ok_same h ?_
        have hxe : (opdS τ x).enc = .tuple (xs.map S0.enc).toArray := by rw [hx]; rfl
        rw [S_ext, opd_enc, hxe]
        simp only [List.toList_toArray, List.getElem?_map, hv, Option.map_some]; rfl
      · cases h
    · cases h
  | nilCheck x =>
    simp only [vop, fv_iff, fc_iff, fh_iff] at h
    split at h
    · rename_i b o hx
      exact ok_same h (by rw [S_nilCheck_p (a := ⟨b, o, none⟩) _ (by rw [opd_enc, hx]; rfl)]; rfl)
    · rename_i cs hx
      exact ok_same h (by rw [S_nilCheck_q (t := 0) (nm := "") (xs := (encs cs).toArray) (ys := #[]) _ (by rw [opd_enc, hx]; rfl)]; rfl)
    · rename_i b t j o hx
      exact ok_same h (by rw [S_nilCheck_p (a := ⟨b, j * szT t + o, none⟩) _ (by rw [opd_enc, hx]; rfl)]; rfl)
    · rename_i f a b hx
      exact ok_same h (by rw [S_nilCheck_f (f := f) (xs := (a.map S0.enc).toArray) (ys := (b.map S0.enc).toArray) _ (by rw [opd_enc, hx]; rfl)]; rfl)
    · cases h
  | lenO s x =>
    cases s with
    | true =>
      simp only [vop, fv_iff, fc_iff, fh_iff] at h
      split at h
      · rename_i s hx
        exact ok_same h (by rw [S_len_s (s := s) _ (by rw [opd_enc, hx]; rfl)]; rfl)
      · cases h
    | false =>
      simp only [vop, fv_iff, fc_iff, fh_iff] at h
      split at h
      · rename_i t l hx
        exact ok_same h (by rw [S_len_b (n := l.length) (xs := (cvs t l).toArray) (ys := #[]) _ (by rw [opd_enc, hx]; rfl)]; rfl)
      · rename_i b n nl hx
        refine ok_same h ?_
        rw [S_len, opd_enc, hx]
        simp only [SV.enc, S0.enc, L.enc, sv]
        cases nl with
        | false => rfl
        | true =>
          cases n with
          | zero => rfl
          | succ n => rfl
      · rename_i n c hx
        exact ok_same h (by rw [S_len_l (a := none) (n := n) (c := c) _ (by rw [opd_enc, hx]; rfl)]; rfl)
      · cases h
  | lenC n => exact ok_same h (by rw [S_lenC]; rfl)
  | minmax b xs =>
    unfold vop at h
    split at h <;> first | contradiction | skip
    rename_i heq
    cases heq
    split at h
    · rename_i k m k' n hx hy
      cases hk : kbeq k k' with
      | false => rw [hk] at h; cases h
      | true =>
        rw [hk] at h
        have := kbeq_eq hk
        subst this
        cases b with
        | true =>
          refine ok_same h ?_
          rw [S_minmax2 (k := k) (m := m) (n := n) _ (by rw [opd_enc, hx]; rfl) (by rw [opd_enc, hy]; rfl)]
          rfl
        | false =>
          refine ok_same h ?_
          rw [S_minmax2 (k := k) (m := m) (n := n) _ (by rw [opd_enc, hx]; rfl) (by rw [opd_enc, hy]; rfl)]
          rfl
    · cases h
  | append e sz bytes s x => exact vappend_ok h
  | _ => exact h.elim

end Go.Bx

