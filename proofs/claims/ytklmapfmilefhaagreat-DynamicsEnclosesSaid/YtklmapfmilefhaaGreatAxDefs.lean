/-
  AX, PART 1: an abstract interpreter for the model's code. Definitions only.
  Values are the model's own; a block number in an address is a number in the interpreter's own heap.
-/
import Derived.Calls
import Derived.Orders
set_option linter.unusedSimpArgs false
set_option linter.unusedVariables false
set_option linter.unusedSectionVars false
namespace Go.Ax

/-! ### Tables keyed by numbers -/

inductive T (α : Type) where
  | nil
  | node (l : T α) (v : Option α) (r : T α)

theorem beqF {n m : Nat} (h : n ≠ m) : Nat.beq n m = false := by
  cases hb : Nat.beq n m with
  | false => rfl
  | true => exact absurd (Nat.eq_of_beq_eq_true hb) h

namespace T
variable {α : Type}
def get : T α → Nat → Option α
  | .nil, _ => none
  | .node l v r, n => cond (Nat.beq n 0) v (cond (Nat.beq (n % 2) 1) (l.get (n / 2)) (r.get (n / 2 - 1)))

def setF : Nat → T α → Nat → Option α → T α
  | 0, t, _, _ => t
  | f + 1, .nil, n, v => cond (Nat.beq n 0) (.node .nil v .nil)
      (cond (Nat.beq (n % 2) 1) (.node (setF f .nil (n / 2) v) none .nil) (.node .nil none (setF f .nil (n / 2 - 1) v)))
  | f + 1, .node l x r, n, v => cond (Nat.beq n 0) (.node l v r)
      (cond (Nat.beq (n % 2) 1) (.node (setF f l (n / 2) v) x r) (.node l x (setF f r (n / 2 - 1) v)))

def set (t : T α) (n : Nat) (v : Option α) : T α := setF (n + 1) t n v

theorem get_setF : ∀ (f : Nat) (t : T α) (n m : Nat) (v : Option α), n < f → (setF f t n v).get m = if m = n then v else t.get m := by
  intro f
  induction f with
  | zero => intro t n m v h; omega
  | succ f ih =>
    intro t n m v h
    by_cases hn : n = 0
    · subst hn
      cases t <;> simp only [setF, Nat.beq_refl, cond_true, get] <;> by_cases hm : m = 0
      · subst hm; simp
      · have : Nat.beq m 0 = false := beqF hm
        simp [this, hm]
      · subst hm; simp
      · have : Nat.beq m 0 = false := beqF hm
        simp [this, hm]
    · have h0 : Nat.beq n 0 = false := beqF hn
      by_cases hp : n % 2 = 1
      · have h1 : Nat.beq (n % 2) 1 = true := by simp [hp]
        have hf : n / 2 < f := by omega
        by_cases hm : m = 0
        · subst hm
          have : ¬ 0 = n := fun h => hn h.symm
          cases t <;> simp [setF, h0, h1, get, this]
        · have hm0 : Nat.beq m 0 = false := beqF hm
          by_cases hq : m % 2 = 1
          · have hq1 : Nat.beq (m % 2) 1 = true := by simp [hq]
            have he : (m / 2 = n / 2) = (m = n) := propext ⟨fun h => by omega, fun h => by rw [h]⟩
            cases t <;> simp [setF, h0, h1, get, hm0, hq1, ih _ _ _ _ hf, he]
          · have hq1 : Nat.beq (m % 2) 1 = false := beqF hq
            have he : ¬ m = n := fun h => by subst h; exact hq hp
            cases t <;> simp [setF, h0, h1, get, hm0, hq1, he]
      · have h1 : Nat.beq (n % 2) 1 = false := beqF hp
        have hf : n / 2 - 1 < f := by omega
        by_cases hm : m = 0
        · subst hm
          have : ¬ 0 = n := fun h => hn h.symm
          cases t <;> simp [setF, h0, h1, get, this]
        · have hm0 : Nat.beq m 0 = false := beqF hm
          by_cases hq : m % 2 = 1
          · have hq1 : Nat.beq (m % 2) 1 = true := by simp [hq]
            have he : ¬ m = n := fun h => by subst h; exact hp hq
            cases t <;> simp [setF, h0, h1, get, hm0, hq1, he]
          · have hq1 : Nat.beq (m % 2) 1 = false := beqF hq
            have he : (m / 2 - 1 = n / 2 - 1) = (m = n) := propext ⟨fun h => by omega, fun h => by rw [h]⟩
            cases t <;> simp [setF, h0, h1, get, hm0, hq1, ih _ _ _ _ hf, he]

theorem get_set (t : T α) (n m : Nat) (v : Option α) : (t.set n v).get m = if m = n then v else t.get m :=
  get_setF _ _ _ _ _ (by omega)
theorem get_nil (n : Nat) : (T.nil : T α).get n = none := rfl
end T

/-! ### The heap -/

structure AObj where
  cells : List Value
  elem : TypeId
  own : Bool

structure AHeap where
  t : T AObj
  size : Nat

namespace AHeap
def get (σ : AHeap) (i : Nat) : Option AObj := σ.t.get i
def push (σ : AHeap) (o : AObj) : AHeap := ⟨σ.t.set σ.size (some o), Nat.add σ.size 1⟩
def put (σ : AHeap) (i : Nat) (o : AObj) : AHeap := ⟨σ.t.set i (some o), σ.size⟩
def kill (σ : AHeap) (i : Nat) : AHeap := ⟨σ.t.set i none, σ.size⟩
def empty : AHeap := ⟨.nil, 0⟩
/-- A number that is taken without a row. -/
def skip (σ : AHeap) : AHeap := ⟨σ.t.set σ.size none, Nat.add σ.size 1⟩
theorem get_skip (σ : AHeap) (i : Nat) : (σ.skip).get i = if i = σ.size then none else σ.get i := T.get_set ..
theorem size_skip (σ : AHeap) : σ.skip.size = σ.size + 1 := rfl

theorem get_push (σ : AHeap) (o : AObj) (i : Nat) : (σ.push o).get i = if i = σ.size then some o else σ.get i := T.get_set ..
theorem get_put (σ : AHeap) (j : Nat) (o : AObj) (i : Nat) : (σ.put j o).get i = if i = j then some o else σ.get i := T.get_set ..
theorem get_kill (σ : AHeap) (j : Nat) (i : Nat) : (σ.kill j).get i = if i = j then none else σ.get i := T.get_set ..
theorem size_push (σ : AHeap) (o : AObj) : (σ.push o).size = σ.size + 1 := rfl
theorem size_put (σ : AHeap) (j : Nat) (o : AObj) : (σ.put j o).size = σ.size := rfl
theorem size_kill (σ : AHeap) (j : Nat) : (σ.kill j).size = σ.size := rfl
end AHeap

/-! ### Code -/

inductive RecvMode where
  | direct
  | deref (sz : Option Nat)

/-- The kinds of the cells of a flat type. -/
inductive CK where
  | int | bool | str
  deriving DecidableEq

/-- How '==' compares at a type. -/
inductive EK where
  | no | bool | ptr | slice | func | iface
  | flat (ks : List CK)

inductive AOp where
  | mv (x : Operand)
  | pick (c a b : Operand)
  | alloc (e : TypeId) (zc : List Value)
  | box (e : TypeId) (x : Operand)
  | build (zc : List Value) (parts : List (Nat × Nat × Operand))
  | buildSlice (e : TypeId) (zc : List Value) (len : Nat) (parts : List (Nat × Nat × Operand))
  | load (sz : Option Nat) (x : Operand)
  | store (sz : Nat) (x v : Operand)
  | bin (op : BinOp) (ek : EK) (x y : Operand)
  | un (op : UnOp) (x : Operand)
  | conv (k : IntKind) (x : Operand)
  | strMv (x : Operand)
  | mkI (t : TypeId) (x : Operand)
  | mkF (f : FuncId) (first captured : List Operand)
  | makeSlice (e : TypeId) (zc : List Value) (bytes : Nat) (l c : Operand)
  | slcS (x : Operand) (lo hi : Option Operand)
  | slc (sz : Nat) (x : Operand) (lo hi : Option Operand)
  | slcA (n sz : Nat) (x : Operand) (lo hi : Option Operand)
  | fieldAddr (off : Nat) (x : Operand)
  | field (off : Nat) (sz : Option Nat) (x : Operand)
  | idxAddr (len : Option Nat) (sz : Nat) (x i : Operand)
  | idx (len sz : Nat) (one : Option Nat) (x i : Operand)
  | idxS (x i : Operand)
  | tassert (x : Operand) (t : TypeId) (zero : Value) (ok : Bool)
  | ext (x : Operand) (i : Nat)
  | nilCheck (x : Operand)
  | lenO (str : Bool) (x : Operand)
  | lenC (n : Nat)
  | minmax (isMax : Bool) (xs : List Operand)
  | append (e : TypeId) (sz bytes : Nat) (s x : Operand)
  | copy (sz : Nat) (d s : Operand)
  | call (f : Operand) (args : List Operand)
  | invoke (tab : List (TypeId × FuncId × RecvMode)) (x : Operand) (args : List Operand)

structure AOper where
  dst : Option Tmp
  op : AOp
  guard : Option (Option Tmp × Bool)
  chk : List Nat

inductive ACode where
  | skip
  | region (ops : List AOper)
  | dregion (ops : List AOper)
  | seq (a b : ACode)
  | cond (c : Operand) (a b : ACode)
  | block (id : Nat) (c : ACode)
  | loop (c : ACode)
  | strRange (pre : List AOper) (x : Operand) (t7 t8 : Tmp) (k : Nat) (post : List AOper) (c : ACode)
  | exit (id : Nat)
  | ret

inductive AExit where
  | normal
  | exit (id : Nat)
  | ret

structure AFunc where
  code : ACode
  res : List (Sum Tmp (Tmp × Option Nat))

abbrev AProg := FuncId → Option AFunc

/-! ### Pieces of the operations -/

abbrev Tmps := T Value
def Tmps.at (τ : Tmps) (t : Nat) : Value := match τ.get t with | some v => v | none => undef

def opd (τ : Tmps) : Operand → Value
  | .tmp t => Tmps.at τ t
  | .const v => v
  | .global _ => undef
  | .func f => .func (.func f) #[] #[]

def AHeap.cell (σ : AHeap) (a : Addr) : Option Value :=
  match σ.get a.block with
  | some o => o.cells[a.off]?
  | none => none

def AHeap.cells (σ : AHeap) (a : Addr) (n : Nat) : Option (List Value) :=
  match σ.get a.block with
  | some o => cond (Nat.ble (a.off + n) o.cells.length) (some ((o.cells.drop a.off).take n)) none
  | none => none

def AHeap.read (σ : AHeap) (sz : Option Nat) (a : Addr) : Option Value :=
  match sz with
  | none => σ.cell a
  | some n => match σ.cells a n with | some cs => some (.agg cs.toArray) | none => none

def partA (sz : Option Nat) (cs : List Value) (off : Nat) : Option Value :=
  match sz with
  | none => cs[off]?
  | some n => cond (Nat.ble (off + n) cs.length) (some (.agg ((cs.drop off).take n).toArray)) none

def storable : Value → Bool
  | .tuple _ => false
  | _ => true

def setAt (l : List Value) (off : Nat) (cs : List Value) : List Value := l.take off ++ (cs ++ l.drop (off + cs.length))

def fillL (cells : List Value) : List (Nat × Nat × Value) → Option (List Value)
  | [] => some cells
  | (off, size, v) :: rest =>
    cond (Nat.beq v.cells.size size && Nat.ble (off + size) cells.length && storable v)
      (fillL (setAt cells off v.cells.toList) rest) none

def flatEq : List CK → List Value → List Value → Option Bool
  | [], [], [] => some true
  | .int :: ks, .int k a :: xs, .int l b :: ys => if k = l then (match flatEq ks xs ys with | some r => some (a == b && r) | none => none) else none
  | .bool :: ks, .bool a :: xs, .bool b :: ys => match flatEq ks xs ys with | some r => some (a == b && r) | none => none
  | .str :: ks, .string a :: xs, .string b :: ys => match flatEq ks xs ys with | some r => some (a == b && r) | none => none
  | _, _, _ => none

def intBin (op : BinOp) (k : IntKind) (x y : Int) : Option Value :=
  match op with
  | .add => some (.int k (k.wrap (x + y)))
  | .sub => some (.int k (k.wrap (x - y)))
  | .mul => some (.int k (k.wrap (x * y)))
  | .quo => if y = 0 then none else some (.int k (k.wrap (x.tdiv y)))
  | .rem => if y = 0 then none else some (.int k (x.tmod y))
  | .and => some (.int k (k.wrap (BitVec.ofInt k.bits x &&& BitVec.ofInt k.bits y).toNat))
  | .or => some (.int k (k.wrap (BitVec.ofInt k.bits x ||| BitVec.ofInt k.bits y).toNat))
  | .xor => some (.int k (k.wrap (BitVec.ofInt k.bits x ^^^ BitVec.ofInt k.bits y).toNat))
  | .andNot => some (.int k (k.wrap (BitVec.ofInt k.bits x &&& ~~~ BitVec.ofInt k.bits y).toNat))
  | .eql => some (.bool (x == y))
  | .neq => some (.bool (x != y))
  | .lss => some (.bool (decide (x < y)))
  | .leq => some (.bool (decide (x ≤ y)))
  | .gtr => some (.bool (decide (x > y)))
  | .geq => some (.bool (decide (x ≥ y)))
  | _ => none

def shiftBin (op : BinOp) (k : IntKind) (x y : Int) : Option Value :=
  if y < 0 then none else
  match op with
  | .shl => some (.int k (k.wrap (x * 2 ^ (min y.toNat k.bits))))
  | .shr => some (.int k (x.fdiv (2 ^ (min y.toNat k.bits))))
  | _ => none

def strBin (op : BinOp) (x y : ByteArray) : Option Value :=
  match op with
  | .add => cond (Nat.ble (x.size + y.size) 140737488355328) (some (.string (x ++ y))) none
  | .eql => some (.bool (x.toList == y.toList))
  | .neq => some (.bool (!(x.toList == y.toList)))
  | .lss => some (.bool (Op.bytesLess x.toList y.toList))
  | .leq => some (.bool (Op.bytesLess x.toList y.toList || x.toList == y.toList))
  | .gtr => some (.bool (!(Op.bytesLess x.toList y.toList || x.toList == y.toList)))
  | .geq => some (.bool (!Op.bytesLess x.toList y.toList))
  | _ => none

/-- '==' at what is no integer and no string. -/
def otherEq : EK → Value → Value → Option Bool
  | .bool, .bool a, .bool b => some (a == b)
  | .ptr, .pointer none, .pointer none => some true
  | .ptr, .pointer none, .pointer (some _) => some false
  | .ptr, .pointer (some _), .pointer none => some false
  | .slice, .slice none _ _, .slice none _ _ => some true
  | .slice, .slice none _ _, .slice (some _) _ _ => some false
  | .slice, .slice (some _) _ _, .slice none _ _ => some false
  | .func, .nilFunc, .nilFunc => some true
  | .func, .nilFunc, .func _ _ _ => some false
  | .func, .func _ _ _, .nilFunc => some false
  | .iface, .nilIface, .iface _ _ => some false
  | .iface, .iface _ _, .nilIface => some false
  | .flat ks, .agg xs, .agg ys => flatEq ks xs.toList ys.toList
  | _, _, _ => none

def binA (op : BinOp) (flat : EK) (x y : Value) : Option Value :=
  match op, x, y with
  | .shl, .int k a, .int _ b => shiftBin .shl k a b
  | .shr, .int k a, .int _ b => shiftBin .shr k a b
  | op, .int k a, .int l b => if k = l then intBin op k a b else none
  | op, .string a, .string b => strBin op a b
  | .eql, x, y => match otherEq flat x y with | some b => some (.bool b) | none => none
  | .neq, x, y => match otherEq flat x y with | some b => some (.bool (!b)) | none => none
  | _, _, _ => none

def unA (op : UnOp) (x : Value) : Option Value :=
  match op, x with
  | .neg, .int k n => some (.int k (k.wrap (0 - n)))
  | .xor, .int k n => intBin .xor k (if k.signed then -1 else k.max) n
  | .not, .bool b => some (.bool (!b))
  | _, _ => none

def bound (x : Value) (y : Nat) : Option Nat :=
  match x with
  | .int _ i => if 0 ≤ i ∧ i ≤ (y : Int) then some i.toNat else none
  | _ => none

def boundHi (hi : Option Value) (y : Nat) : Option Nat :=
  match hi with
  | some v => bound v y
  | none => some y

def boundLo (lo : Option Value) (y : Nat) : Option Nat :=
  match lo with
  | some v => bound v y
  | none => some 0

def minmaxA (isMax : Bool) : Value → List Value → Option Value
  | x, [] => some x
  | .int k a, .int l b :: rest => if k = l then minmaxA isMax (.int k (if isMax then (if a < b then b else a) else (if b < a then b else a))) rest else none
  | _, _ => none

def strCells (s : ByteArray) : List Value := s.data.toList.map fun b => .int .u8 b.toNat

/-- What is to be appended: how many elements, and their cells. -/
def appCells (σ : AHeap) (sz : Nat) : Value → Option (Nat × List Value)
  | .slice none _ _ => some (0, [])
  | .slice (some a) n _ => cond (Nat.beq n 0) (some (0, [])) (match σ.cells a (n * sz) with | some cs => some (n, cs) | none => none)
  | .string s => cond (Nat.beq sz 1) (some (s.size, strCells s)) none
  | _ => none

def appendA (e : TypeId) (sz bytes : Nat) (s x : Value) (σ : AHeap) : Option (Value × AHeap) :=
  match appCells σ sz x with
  | none => none
  | some (n, new) =>
    match s with
    | .slice none l _ =>
      cond (Nat.beq l 0) (cond (Nat.beq n 0) (some (.slice none 0 0, σ))
        (cond (Nat.ble (n * bytes) 140737488355328 && Nat.ble n 140737488355328)
          (some (.slice (some ⟨σ.size, 0, none⟩) n 1, σ.push ⟨new, e, true⟩)) none)) none
    | .slice (some a) l fl =>
      cond (Nat.beq n 0) (some (s, σ)) (
      match σ.get a.block with
      | none => none
      | some o =>
        cond (o.own && Nat.beq fl 1 && Nat.beq o.elem e && Nat.ble ((l + n) * bytes) 140737488355328 && Nat.ble (l + n) 140737488355328 && Nat.ble (l * sz) o.cells.length)
          (cond (Nat.ble ((l + n) * sz) o.cells.length)
            (some (.slice (some a) (l + n) 1, σ.put a.block ⟨setAt o.cells (l * sz) new, e, true⟩))
            (some (.slice (some ⟨σ.size, 0, none⟩) (l + n) 1, (σ.kill a.block).push ⟨o.cells.take (l * sz) ++ new, e, true⟩)))
          none)
    | _ => none

def copyA (sz : Nat) (d s : Value) (σ : AHeap) : Option (Value × AHeap) :=
  match appCells σ sz s with
  | none => none
  | some (n, new) =>
    match d with
    | .slice none _ _ => some (.int .i64 0, σ)
    | .slice (some a) dl _ =>
      cond (Nat.beq (min n dl) 0) (some (.int .i64 0, σ)) (
      match σ.get a.block with
      | none => none
      | some o =>
        cond (o.own && Nat.ble (a.off + (min n dl) * sz) o.cells.length)
          (some (.int .i64 (min n dl : Nat), σ.put a.block ⟨setAt o.cells a.off (new.take ((min n dl) * sz)), o.elem, true⟩)) none)
    | _ => none

/-- Operations that call nothing. -/
def op1 (ρ : Operand → Value) (σ : AHeap) : AOp → Option (Value × AHeap)
  | .mv x => some (ρ x, σ)
  | .pick c a b => match ρ c with | .bool true => some (ρ a, σ) | .bool false => some (ρ b, σ) | _ => none
  | .alloc e zc => some (.pointer (some ⟨σ.size, 0, none⟩), σ.push ⟨zc, e, true⟩)
  | .box e x => cond (storable (ρ x)) (some (.pointer (some ⟨σ.size, 0, none⟩), σ.push ⟨(ρ x).cells.toList, e, true⟩)) none
  | .build zc parts => match fillL zc (parts.map fun p => (p.1, p.2.1, ρ p.2.2)) with | some cs => some (.agg cs.toArray, σ) | none => none
  | .buildSlice e zc len parts => match fillL zc (parts.map fun p => (p.1, p.2.1, ρ p.2.2)) with
    | some cs => some (.slice (some ⟨σ.size, 0, none⟩) len 1, σ.push ⟨cs, e, true⟩) | none => none
  | .load sz x => match ρ x with | .pointer (some a) => (match σ.read sz a with | some v => some (v, σ) | none => none) | _ => none
  | .store sz x v => match ρ x with
    | .pointer (some a) => (match σ.get a.block with
      | some o => cond (o.own && storable (ρ v) && Nat.beq (ρ v).cells.size sz && Nat.ble (a.off + sz) o.cells.length)
          (some (undef, σ.put a.block ⟨setAt o.cells a.off (ρ v).cells.toList, o.elem, true⟩)) none
      | none => none)
    | _ => none
  | .bin op flat x y => match binA op flat (ρ x) (ρ y) with | some v => some (v, σ) | none => none
  | .un op x => match unA op (ρ x) with | some v => some (v, σ) | none => none
  | .conv k x => match ρ x with | .int _ n => some (.int k (k.wrap n), σ) | _ => none
  | .strMv x => match ρ x with | .string s => some (.string s, σ) | _ => none
  | .mkI t x => some (.iface t (ρ x), σ)
  | .mkF f first captured => some (.func (.func f) (first.map ρ).toArray (captured.map ρ).toArray, σ)
  | .makeSlice e zc bytes l c => match ρ l, ρ c with
    | .int _ a, .int _ b => cond (decide (0 ≤ a) && decide (a ≤ b) && decide (b * bytes ≤ 140737488355328) && decide (b ≤ 140737488355328))
        (some (.slice (some ⟨σ.size, 0, none⟩) a.toNat 1, σ.push ⟨(List.replicate b.toNat zc).flatten, e, true⟩)) none
    | _, _ => none
  | .slcS x lo hi => match ρ x with
    | .string s => (match boundHi (hi.map ρ) s.size with
      | some h => (match boundLo (lo.map ρ) h with | some l => some (.string (s.extract l h), σ) | none => none)
      | none => none)
    | _ => none
  | .slc sz x lo hi => match ρ x with
    | .slice none _ _ => (match boundHi (hi.map ρ) 0 with
      | some h => (match boundLo (lo.map ρ) h with | some _ => some (.slice none 0 0, σ) | none => none)
      | none => none)
    | .slice (some a) len fl => (match boundHi (hi.map ρ) len with
      | some h => (match boundLo (lo.map ρ) h with
        | some l => some (.slice (some ⟨a.block, a.off + l * sz, none⟩) (h - l) (cond (Nat.beq l 0) fl 0), σ)
        | none => none)
      | none => none)
    | _ => none
  | .slcA n sz x lo hi => match ρ x with
    | .pointer (some a) => (match boundHi (hi.map ρ) n with
      | some h => (match boundLo (lo.map ρ) h with
        | some l => some (.slice (some ⟨a.block, a.off + l * sz, none⟩) (h - l) 0, σ)
        | none => none)
      | none => none)
    | _ => none
  | .fieldAddr off x => match ρ x with | .pointer (some a) => some (.pointer (some ⟨a.block, a.off + off, none⟩), σ) | _ => none
  | .field off sz x => match ρ x with | .agg cs => (match partA sz cs.toList off with | some v => some (v, σ) | none => none) | _ => none
  | .idxAddr none sz x i => match ρ x, ρ i with
    | .slice (some a) len _, .int _ j => if 0 ≤ j ∧ j < (len : Int) then some (.pointer (some ⟨a.block, a.off + j.toNat * sz, none⟩), σ) else none
    | _, _ => none
  | .idxAddr (some n) sz x i => match ρ x, ρ i with
    | .pointer (some a), .int _ j => if 0 ≤ j ∧ j < (n : Int) then some (.pointer (some ⟨a.block, a.off + j.toNat * sz, none⟩), σ) else none
    | _, _ => none
  | .idx len sz one x i => match ρ x, ρ i with
    | .agg cs, .int _ j => if 0 ≤ j ∧ j < (len : Int) then (match partA one cs.toList (j.toNat * sz) with | some v => some (v, σ) | none => none) else none
    | _, _ => none
  | .idxS x i => match ρ x, ρ i with
    | .string s, .int _ j => if 0 ≤ j then (match s.data.toList[j.toNat]? with | some b => some (.int .u8 b.toNat, σ) | none => none) else none
    | _, _ => none
  | .tassert x t zero ok => match ρ x with
    | .iface u v => cond (Nat.beq u t) (some (cond ok (.tuple #[v, .bool true]) v, σ)) (cond ok (some (.tuple #[zero, .bool false], σ)) none)
    | .nilIface => cond ok (some (.tuple #[zero, .bool false], σ)) none
    | _ => none
  | .ext x i => match ρ x with | .tuple vs => (match vs.toList[i]? with | some v => some (v, σ) | none => none) | _ => none
  | .nilCheck x => match ρ x with
    | .pointer (some a) => some (.pointer (some a), σ)
    | .func (.func f) a b => some (.func (.func f) a b, σ)
    | .iface t v => some (.iface t v, σ)
    | _ => none
  | .lenO true x => match ρ x with | .string s => some (.int .i64 s.size, σ) | _ => none
  | .lenO false x => match ρ x with | .slice _ n _ => some (.int .i64 n, σ) | _ => none
  | .lenC n => some (.int .i64 n, σ)
  | .minmax isMax xs => match xs.map ρ with
    | x :: rest => (match minmaxA isMax x rest with | some v => some (v, σ) | none => none)
    | [] => none
  | .append e sz bytes s x => appendA e sz bytes (ρ s) (ρ x) σ
  | .copy sz d s => copyA sz (ρ d) (ρ s) σ
  | .call _ _ => none
  | .invoke _ _ _ => none

abbrev CallF := FuncId → List Value → AHeap → Option (Value × AHeap)

def findTab (t : TypeId) : List (TypeId × FuncId × RecvMode) → Option (FuncId × RecvMode)
  | [] => none
  | (u, r) :: rest => cond (Nat.beq u t) (some r) (findTab t rest)

def recvOf (σ : AHeap) (v : Value) : RecvMode → Option Value
  | .direct => some v
  | .deref sz => match v with | .pointer (some a) => σ.read sz a | _ => none

def op2 (cf : CallF) (ρ : Operand → Value) (σ : AHeap) (op : AOp) : Option (Value × AHeap) :=
  match op with
  | .call f args => match ρ f with
    | .func (.func g) first captured => cf g (first.toList ++ (args.map ρ ++ captured.toList)) σ
    | _ => none
  | .invoke tab x args => match ρ x with
    | .iface t v => (match findTab t tab with
      | some (g, mode) => (match recvOf σ v mode with | some u => cf g (u :: args.map ρ) σ | none => none)
      | none => none)
    | _ => none
  | op => op1 ρ σ op

def wantedA (τ : Tmps) : Option (Option Tmp × Bool) → Bool
  | none => true
  | some (none, _) => false
  | some (some t, want) => match Tmps.at τ t with | .bool b => b == want | _ => false

def putA (τ : Tmps) (dst : Option Tmp) (v : Value) : Tmps :=
  match dst with
  | some d => τ.set d (some v)
  | none => τ

def evalOps (cf : CallF) : List AOper → Tmps → AHeap → Option (Tmps × AHeap)
  | [], τ, σ => some (τ, σ)
  | o :: rest, τ, σ =>
    match wantedA τ o.guard with
    | true => (match op2 cf (opd τ) σ o.op with
      | some (v, σ') => evalOps cf rest (putA τ o.dst v) σ'
      | none => none)
    | false => evalOps cf rest (putA τ o.dst undef) σ

/-! In a region that draws its order: the heaps behind each writer are kept, and the blocks that a checked load reads. -/
def isWriter : AOp → Bool
  | .call _ _ | .invoke _ _ _ | .append .. | .store .. | .copy .. => true
  | _ => false

def loadsAt (ρ : Operand → Value) : AOp → Nat
  | .load _ x => match ρ x with | .pointer (some a) => a.block | _ => 0
  | _ => 0

/-- Every address in a cell lies in a block below n. -/
def valBnd (n : Nat) : Value → Bool
  | .bool _ | .int _ _ | .string _ | .pointer none | .nilFunc | .nilIface => true
  | .slice none _ _ => true
  | .pointer (some a) | .slice (some a) _ _ => Nat.blt a.block n
  | .iface _ v => valBnd n v
  | .func _ xs ys => xs.isEmpty && ys.isEmpty
  | _ => false

def chkFine (chk : List Nat) (σ : AHeap) (id : Nat) : Bool :=
  chk.isEmpty || (match σ.get id with | some ob => ob.cells.all (valBnd σ.size) | none => false)

def evalOpsD (cf : CallF) : Nat → List AOper → Tmps → AHeap → List (Nat × AHeap × AHeap) → List (Nat × List Nat) → Option (Tmps × AHeap × List (Nat × AHeap × AHeap) × List (Nat × List Nat))
  | _, [], τ, σ, hs, ids => some (τ, σ, hs, ids)
  | k, o :: rest, τ, σ, hs, ids =>
    match wantedA τ o.guard with
    | true => (match op2 cf (opd τ) σ o.op with
      | some (v, σ') => cond (chkFine o.chk σ (loadsAt (opd τ) o.op))
          (evalOpsD cf (k + 1) rest (putA τ o.dst v) σ' (cond (isWriter o.op) ((k, σ, σ') :: hs) hs) (cond o.chk.isEmpty ids ((loadsAt (opd τ) o.op, o.chk) :: ids)))
          none
      | none => none)
    | false => evalOpsD cf (k + 1) rest (putA τ o.dst undef) σ hs ids

/-- A Boolean equality of values, true at equal ones that are plain. -/
def addrEq (a b : Addr) : Bool := Nat.beq a.block b.block && Nat.beq a.off b.off && (match a.spot, b.spot with | none, none => true | some x, some y => Nat.beq x y | _, _ => false)

def valEq0 : Value → Value → Bool
  | .bool a, .bool b => a == b
  | .int k a, .int l b => decide (k = l) && decide (a = b)
  | .string a, .string b => a.data.toList == b.data.toList
  | .pointer none, .pointer none => true
  | .pointer (some a), .pointer (some b) => addrEq a b
  | .slice none l c, .slice none m d => Nat.beq l m && Nat.beq c d
  | .slice (some a) l c, .slice (some b) m d => addrEq a b && Nat.beq l m && Nat.beq c d
  | .nilFunc, .nilFunc => true
  | .nilIface, .nilIface => true
  | .func (.func f) xs ys, .func (.func g) xs' ys' => Nat.beq f g && (xs.isEmpty && ys.isEmpty) && (xs'.isEmpty && ys'.isEmpty)
  | _, _ => false

def valEq : Value → Value → Bool
  | .iface t v, .iface u w => Nat.beq t u && valEq0 v w
  | a, b => valEq0 a b

def valsEq : List Value → List Value → Bool
  | [], [] => true
  | a :: x, b :: y => valEq a b && valsEq x y
  | _, _ => false

def objEq : Option AObj → Option AObj → Bool
  | some x, some y => valsEq x.cells y.cells && Nat.beq x.elem y.elem && x.own == y.own
  | _, _ => false

def drawnOk (σ : AHeap) (hs : List (Nat × AHeap × AHeap)) (ids : List (Nat × List Nat)) : Bool :=
  ids.all fun i => Nat.blt i.1 σ.size && hs.all fun h => !i.2.contains h.1 || objEq (h.2.2.get i.1) (h.2.1.get i.1)

def loopN : Nat → (Tmps → AHeap → Option (AExit × Tmps × AHeap)) → Tmps → AHeap → Option (AExit × Tmps × AHeap)
  | 0, _, _, _ => none
  | n + 1, body, τ, σ =>
    match body τ σ with
    | some (.normal, τ', σ') => loopN n body τ' σ'
    | r => r

/-- The turns of a loop over a string's code points. -/
def strLoop (s : ByteArray) (id t7 t8 : Nat) (body : Tmps → AHeap → Option (AExit × Tmps × AHeap)) : Nat → Nat → Tmps → AHeap → Option (AExit × Tmps × AHeap)
  | 0, _, _, _ => none
  | n + 1, pos, τ, σ =>
    match Tmps.at τ t7 with
    | .pointer (some a) =>
      cond (Nat.beq a.block id && Nat.beq a.off 0)
        (cond (Nat.blt pos s.size)
          (match body (τ.set t8 (some (.tuple #[.bool true, .int .i64 pos, .int .i32 (Utf8.decode s pos).1]))) σ with
            | some (.normal, τ', σ') => strLoop s id t7 t8 body n (pos + (Utf8.decode s pos).2) τ' σ'
            | r => r)
          (match body (τ.set t8 (some (.tuple #[.bool false]))) σ with
            | some (.normal, _, _) => none
            | r => r))
        none
    | _ => none

def leave (k : Nat) : Option (AExit × Tmps × AHeap) → Option (AExit × Tmps × AHeap)
  | some (.exit j, τ', σ') => cond (Nat.beq j k) (some (.normal, τ', σ')) (some (.exit j, τ', σ'))
  | r => r

def evalC (cf : CallF) (n : Nat) : ACode → Tmps → AHeap → Option (AExit × Tmps × AHeap)
  | .skip, τ, σ => some (.normal, τ, σ)
  | .region ops, τ, σ => match evalOps cf ops τ σ with | some (τ', σ') => some (.normal, τ', σ') | none => none
  | .dregion ops, τ, σ => match evalOpsD cf 0 ops τ σ [] [] with
    | some (τ', σ', hs, ids) => cond (drawnOk σ hs ids) (some (.normal, τ', σ')) none
    | none => none
  | .seq a b, τ, σ => match evalC cf n a τ σ with
    | some (.normal, τ', σ') => evalC cf n b τ' σ'
    | r => r
  | .cond c a b, τ, σ => match opd τ c with
    | .bool true => evalC cf n a τ σ
    | .bool false => evalC cf n b τ σ
    | _ => none
  | .block id c, τ, σ => match evalC cf n c τ σ with
    | some (.exit j, τ', σ') => cond (Nat.beq j id) (some (.normal, τ', σ')) (some (.exit j, τ', σ'))
    | r => r
  | .loop c, τ, σ => loopN n (evalC cf n c) τ σ
  | .strRange pre x t7 t8 k post c, τ, σ => match evalOps cf pre τ σ with
    | some (τ1, σ1) => (match opd τ1 x with
      | .string s => leave k (strLoop s σ1.size t7 t8 (fun τ σ => match evalOps cf post τ σ with | some (τ', σ') => evalC cf n c τ' σ' | none => none) n 0 (τ1.set t7 (some (.pointer (some ⟨σ1.size, 0, none⟩)))) σ1.skip)
      | _ => none)
    | none => none
  | .exit id, τ, σ => some (.exit id, τ, σ)
  | .ret, τ, σ => some (.ret, τ, σ)

def ofArgs (i : Nat) : List Value → Tmps → Tmps
  | [], τ => τ
  | v :: rest, τ => ofArgs (i + 1) rest (τ.set i (some v))

def resOf (τ : Tmps) (σ : AHeap) : Sum Tmp (Tmp × Option Nat) → Option Value
  | .inl t => some (Tmps.at τ t)
  | .inr (t, sz) => match Tmps.at τ t with
    | .pointer (some a) => σ.read sz a
    | _ => none

def resAll (τ : Tmps) (σ : AHeap) : List (Sum Tmp (Tmp × Option Nat)) → Option (List Value)
  | [] => some []
  | r :: rest => match resOf τ σ r with
    | some v => (match resAll τ σ rest with | some vs => some (v :: vs) | none => none)
    | none => none

def packRes : List Value → Value
  | [v] => v
  | vs => .tuple vs.toArray

def stepF (cf : CallF) (A : AProg) (n : Nat) (f : FuncId) (args : List Value) (σ : AHeap) : Option (Value × AHeap) :=
  match A f with
  | none => none
  | some F =>
    match evalC cf n F.code (ofArgs 0 args .nil) σ with
    | some (.normal, τ, σ') | some (.ret, τ, σ') => (match resAll τ σ' F.res with | some vs => some (packRes vs, σ') | none => none)
    | _ => none

def evalF (A : AProg) : Nat → FuncId → List Value → AHeap → Option (Value × AHeap)
  | 0, _, _, _ => none
  | n + 1, f, args, σ => stepF (evalF A n) A n f args σ

/-- The same over calls that are known already. -/
def evalX (X : CallF) (A : AProg) : Nat → FuncId → List Value → AHeap → Option (Value × AHeap)
  | 0, f, args, σ => X f args σ
  | n + 1, f, args, σ => match X f args σ with
    | some r => some r
    | none => stepF (evalX X A n) A n f args σ

end Go.Ax
