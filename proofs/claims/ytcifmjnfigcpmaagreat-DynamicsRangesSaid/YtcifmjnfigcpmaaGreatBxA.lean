/-
  BX, PART 1: an abstract interpreter for the model's code. Definitions only.
  Values are the model's own; a block number in an address is a number in the interpreter's own heap.
-/
import Derived.Calls
import Derived.Orders
import Derived.Laws.Sem
import Derived.Laws.Cells
import Derived.Laws.World
import Derived.Laws.Rows
import Derived.Laws.CopyRow
import Derived.Laws.Append
set_option linter.unusedSimpArgs false
set_option linter.unusedVariables false
set_option linter.unusedSectionVars false
namespace Go.Bx

/-! ### Tables keyed by numbers -/

inductive T (α : Type) where
  | nil
  | node (l : T α) (v : Option α) (r : T α)

theorem beqF {n m : Nat} (h : n ≠ m) : Nat.beq n m = false := by
  cases hb : Nat.beq n m with
  | false => rfl
  | true => exact absurd (Nat.eq_of_beq_eq_true hb) h

namespace T
variable {α : Type}
def get : T α → Nat → Option α
  | .nil, _ => none
  | .node l v r, n => cond (Nat.beq n 0) v (cond (Nat.beq (n % 2) 1) (l.get (n / 2)) (r.get (n / 2 - 1)))

def setF : Nat → T α → Nat → Option α → T α
  | 0, t, _, _ => t
  | f + 1, .nil, n, v => cond (Nat.beq n 0) (.node .nil v .nil)
      (cond (Nat.beq (n % 2) 1) (.node (setF f .nil (n / 2) v) none .nil) (.node .nil none (setF f .nil (n / 2 - 1) v)))
  | f + 1, .node l x r, n, v => cond (Nat.beq n 0) (.node l v r)
      (cond (Nat.beq (n % 2) 1) (.node (setF f l (n / 2) v) x r) (.node l x (setF f r (n / 2 - 1) v)))

def set (t : T α) (n : Nat) (v : Option α) : T α := setF (n + 1) t n v

theorem get_setF : ∀ (f : Nat) (t : T α) (n m : Nat) (v : Option α), n < f → (setF f t n v).get m = if m = n then v else t.get m := by
  intro f
  induction f with
  | zero => intro t n m v h; omega
  | succ f ih =>
    intro t n m v h
    by_cases hn : n = 0
    · subst hn
      cases t <;> simp only [setF, Nat.beq_refl, cond_true, get] <;> by_cases hm : m = 0
      · subst hm; simp
      · have : Nat.beq m 0 = false := beqF hm
        simp [this, hm]
      · subst hm; simp
      · have : Nat.beq m 0 = false := beqF hm
        simp [this, hm]
    · have h0 : Nat.beq n 0 = false := beqF hn
      by_cases hp : n % 2 = 1
      · have h1 : Nat.beq (n % 2) 1 = true := by simp [hp]
        have hf : n / 2 < f := by omega
        by_cases hm : m = 0
        · subst hm
          have : ¬ 0 = n := fun h => hn h.symm
          cases t <;> simp [setF, h0, h1, get, this]
        · have hm0 : Nat.beq m 0 = false := beqF hm
          by_cases hq : m % 2 = 1
          · have hq1 : Nat.beq (m % 2) 1 = true := by simp [hq]
            have he : (m / 2 = n / 2) = (m = n) := propext ⟨fun h => by omega, fun h => by rw [h]⟩
            cases t <;> simp [setF, h0, h1, get, hm0, hq1, ih _ _ _ _ hf, he]
          · have hq1 : Nat.beq (m % 2) 1 = false := beqF hq
            have he : ¬ m = n := fun h => by subst h; exact hq hp
            cases t <;> simp [setF, h0, h1, get, hm0, hq1, he]
      · have h1 : Nat.beq (n % 2) 1 = false := beqF hp
        have hf : n / 2 - 1 < f := by omega
        by_cases hm : m = 0
        · subst hm
          have : ¬ 0 = n := fun h => hn h.symm
          cases t <;> simp [setF, h0, h1, get, this]
        · have hm0 : Nat.beq m 0 = false := beqF hm
          by_cases hq : m % 2 = 1
          · have hq1 : Nat.beq (m % 2) 1 = true := by simp [hq]
            have he : ¬ m = n := fun h => by subst h; exact hp hq
            cases t <;> simp [setF, h0, h1, get, hm0, hq1, he]
          · have hq1 : Nat.beq (m % 2) 1 = false := beqF hq
            have he : (m / 2 - 1 = n / 2 - 1) = (m = n) := propext ⟨fun h => by omega, fun h => by rw [h]⟩
            cases t <;> simp [setF, h0, h1, get, hm0, hq1, ih _ _ _ _ hf, he]

theorem get_set (t : T α) (n m : Nat) (v : Option α) : (t.set n v).get m = if m = n then v else t.get m :=
  get_setF _ _ _ _ _ (by omega)
theorem get_nil (n : Nat) : (T.nil : T α).get n = none := rfl
end T

/-- What fills one cell, and is known. -/
def _root_.Go.Value.one1 : Value → Bool
  | .agg _ | .tuple _ | .chan _ => false
  | _ => true

/-! ### The heap -/

structure AObj where
  cells : List Value
  elem : TypeId
  own : Bool

structure AHeap where
  t : T AObj
  size : Nat

namespace AHeap
def get (σ : AHeap) (i : Nat) : Option AObj := σ.t.get i
def push (σ : AHeap) (o : AObj) : AHeap := ⟨σ.t.set σ.size (some o), Nat.add σ.size 1⟩
def put (σ : AHeap) (i : Nat) (o : AObj) : AHeap := ⟨σ.t.set i (some o), σ.size⟩
def kill (σ : AHeap) (i : Nat) : AHeap := ⟨σ.t.set i none, σ.size⟩
def empty : AHeap := ⟨.nil, 0⟩
/-- A number that is taken without a row. -/
def skip (σ : AHeap) : AHeap := ⟨σ.t.set σ.size none, Nat.add σ.size 1⟩
theorem get_skip (σ : AHeap) (i : Nat) : (σ.skip).get i = if i = σ.size then none else σ.get i := T.get_set ..
theorem size_skip (σ : AHeap) : σ.skip.size = σ.size + 1 := rfl

theorem get_push (σ : AHeap) (o : AObj) (i : Nat) : (σ.push o).get i = if i = σ.size then some o else σ.get i := T.get_set ..
theorem get_put (σ : AHeap) (j : Nat) (o : AObj) (i : Nat) : (σ.put j o).get i = if i = j then some o else σ.get i := T.get_set ..
theorem get_kill (σ : AHeap) (j : Nat) (i : Nat) : (σ.kill j).get i = if i = j then none else σ.get i := T.get_set ..
theorem size_push (σ : AHeap) (o : AObj) : (σ.push o).size = σ.size + 1 := rfl
theorem size_put (σ : AHeap) (j : Nat) (o : AObj) : (σ.put j o).size = σ.size := rfl
theorem size_kill (σ : AHeap) (j : Nat) : (σ.kill j).size = σ.size := rfl
end AHeap

/-! ### Code -/

inductive RecvMode where
  | direct
  | deref (sz : Option Nat)

/-- The kinds of the cells of a flat type. -/
inductive CK where
  | int | bool | str
  deriving DecidableEq

/-- How '==' compares at a type. -/
inductive EK where
  | no | bool | ptr | slice | func | iface
  | flat (ks : List CK)

inductive AOp where
  | mv (x : Operand)
  | pick (c a b : Operand)
  | alloc (e : TypeId) (zc : List Value)
  | box (e : TypeId) (x : Operand)
  | build (zc : List Value) (parts : List (Nat × Nat × Operand))
  | buildSlice (e : TypeId) (zc : List Value) (len : Nat) (parts : List (Nat × Nat × Operand))
  | load (sz : Option Nat) (x : Operand)
  | store (sz : Nat) (x v : Operand)
  | bin (op : BinOp) (ek : EK) (x y : Operand)
  | un (op : UnOp) (x : Operand)
  | conv (k : IntKind) (x : Operand)
  | strMv (x : Operand)
  | mkI (t : TypeId) (x : Operand)
  | mkF (f : FuncId) (first captured : List Operand)
  | makeSlice (e : TypeId) (zc : List Value) (bytes : Nat) (l c : Operand)
  | slcS (x : Operand) (lo hi : Option Operand)
  | slc (sz : Nat) (x : Operand) (lo hi : Option Operand)
  | slcA (n sz : Nat) (x : Operand) (lo hi : Option Operand)
  | fieldAddr (off : Nat) (x : Operand)
  | field (off : Nat) (sz : Option Nat) (x : Operand)
  | idxAddr (len : Option Nat) (sz : Nat) (x i : Operand)
  | idx (len sz : Nat) (one : Option Nat) (x i : Operand)
  | idxS (x i : Operand)
  | tassert (x : Operand) (t : TypeId) (zero : Value) (ok : Bool)
  | ext (x : Operand) (i : Nat)
  | nilCheck (x : Operand)
  | lenO (str : Bool) (x : Operand)
  | lenC (n : Nat)
  | minmax (isMax : Bool) (xs : List Operand)
  | append (e : TypeId) (sz bytes : Nat) (s x : Operand)
  | copy (sz : Nat) (d s : Operand)
  | call (f : Operand) (args : List Operand)
  | invoke (tab : List (TypeId × FuncId × RecvMode)) (x : Operand) (args : List Operand)

structure AOper where
  dst : Option Tmp
  op : AOp
  guard : Option (Option Tmp × Bool)
  chk : List Nat

inductive ACode where
  | skip
  | region (ops : List AOper)
  | dregion (ops : List AOper)
  | seq (a b : ACode)
  | cond (c : Operand) (a b : ACode)
  | block (id : Nat) (c : ACode)
  | loop (c : ACode)
  | strRange (pre : List AOper) (x : Operand) (t7 t8 : Tmp) (k : Nat) (post : List AOper) (c : ACode)
  | exit (id : Nat)
  | ret
  | fail

inductive AExit where
  | normal
  | exit (id : Nat)
  | ret

structure AFunc where
  code : ACode
  res : List (Sum Tmp (Tmp × Option Nat))

abbrev AProg := FuncId → Option AFunc

/-! ### Values that bear their contents: a slice or a pointer into memory that is never written again -/

abbrev bvS (n : Nat) (cs : List Value) : Value := .func (.yield n) cs.toArray #[]
abbrev bvP (cs : List Value) : Value := .func (.methodOf 0 "") cs.toArray #[]

/-! ### Pieces of the operations -/

/-- A value of which nothing is known. -/
abbrev top : Value := .chan none

abbrev Tmps := T Value
def Tmps.at (τ : Tmps) (t : Nat) : Value := match τ.get t with | some v => v | none => top

def opd (τ : Tmps) : Operand → Value
  | .tmp t => Tmps.at τ t
  | .const v => v
  | .global _ => undef
  | .func f => .func (.func f) #[] #[]

def AHeap.cell (σ : AHeap) (a : Addr) : Option Value :=
  match σ.get a.block with
  | some o => o.cells[a.off]?
  | none => none

def AHeap.cells (σ : AHeap) (a : Addr) (n : Nat) : Option (List Value) :=
  match σ.get a.block with
  | some o => cond (Nat.ble (a.off + n) o.cells.length) (some ((o.cells.drop a.off).take n)) none
  | none => none

def AHeap.read (σ : AHeap) (sz : Option Nat) (a : Addr) : Option Value :=
  match sz with
  | none => σ.cell a
  | some n => match σ.cells a n with | some cs => some (.agg cs.toArray) | none => none

def partA (sz : Option Nat) (cs : List Value) (off : Nat) : Option Value :=
  match sz with
  | none => cs[off]?
  | some n => cond (Nat.ble (off + n) cs.length) (some (.agg ((cs.drop off).take n).toArray)) none

def storable : Value → Bool
  | .tuple _ | .chan _ => false
  | _ => true

def setAt (l : List Value) (off : Nat) (cs : List Value) : List Value := l.take off ++ (cs ++ l.drop (off + cs.length))

def fillL (cells : List Value) : List (Nat × Nat × Value) → Option (List Value)
  | [] => some cells
  | (off, size, v) :: rest =>
    cond (Nat.beq v.cells.size size && Nat.ble (off + size) cells.length && storable v)
      (fillL (setAt cells off v.cells.toList) rest) none

def flatEq : List CK → List Value → List Value → Option Bool
  | [], [], [] => some true
  | .int :: ks, .int k a :: xs, .int l b :: ys => if k = l then (match flatEq ks xs ys with | some r => some (a == b && r) | none => none) else none
  | .bool :: ks, .bool a :: xs, .bool b :: ys => match flatEq ks xs ys with | some r => some (a == b && r) | none => none
  | .str :: ks, .string a :: xs, .string b :: ys => match flatEq ks xs ys with | some r => some (a == b && r) | none => none
  | _, _, _ => none

def intBin (op : BinOp) (k : IntKind) (x y : Int) : Option Value :=
  match op with
  | .add => some (.int k (k.wrap (x + y)))
  | .sub => some (.int k (k.wrap (x - y)))
  | .mul => some (.int k (k.wrap (x * y)))
  | .quo => if y = 0 then none else some (.int k (k.wrap (x.tdiv y)))
  | .rem => if y = 0 then none else some (.int k (x.tmod y))
  | .and => some (.int k (k.wrap (BitVec.ofInt k.bits x &&& BitVec.ofInt k.bits y).toNat))
  | .or => some (.int k (k.wrap (BitVec.ofInt k.bits x ||| BitVec.ofInt k.bits y).toNat))
  | .xor => some (.int k (k.wrap (BitVec.ofInt k.bits x ^^^ BitVec.ofInt k.bits y).toNat))
  | .andNot => some (.int k (k.wrap (BitVec.ofInt k.bits x &&& ~~~ BitVec.ofInt k.bits y).toNat))
  | .eql => some (.bool (x == y))
  | .neq => some (.bool (x != y))
  | .lss => some (.bool (decide (x < y)))
  | .leq => some (.bool (decide (x ≤ y)))
  | .gtr => some (.bool (decide (x > y)))
  | .geq => some (.bool (decide (x ≥ y)))
  | _ => none

def shiftBin (op : BinOp) (k : IntKind) (x y : Int) : Option Value :=
  if y < 0 then none else
  match op with
  | .shl => some (.int k (k.wrap (x * 2 ^ (min y.toNat k.bits))))
  | .shr => some (.int k (x.fdiv (2 ^ (min y.toNat k.bits))))
  | _ => none

def strBin (op : BinOp) (x y : ByteArray) : Option Value :=
  match op with
  | .add => cond (Nat.ble (x.size + y.size) 140737488355328) (some (.string (x ++ y))) none
  | .eql => some (.bool (x.toList == y.toList))
  | .neq => some (.bool (!(x.toList == y.toList)))
  | .lss => some (.bool (Op.bytesLess x.toList y.toList))
  | .leq => some (.bool (Op.bytesLess x.toList y.toList || x.toList == y.toList))
  | .gtr => some (.bool (!(Op.bytesLess x.toList y.toList || x.toList == y.toList)))
  | .geq => some (.bool (!Op.bytesLess x.toList y.toList))
  | _ => none

/-- '==' at what is no integer and no string. -/
def otherEq : EK → Value → Value → Option Bool
  | .bool, .bool a, .bool b => some (a == b)
  | .ptr, .pointer none, .pointer none => some true
  | .ptr, .pointer none, .pointer (some _) => some false
  | .ptr, .pointer (some _), .pointer none => some false
  | .ptr, .func (.methodOf _ _) _ _, .pointer none => some false
  | .slice, .slice none _ _, .slice none _ _ => some true
  | .slice, .slice none _ _, .slice (some _) _ _ => some false
  | .slice, .slice (some _) _ _, .slice none _ _ => some false
  | .func, .nilFunc, .nilFunc => some true
  | .func, .nilFunc, .func (.func _) _ _ => some false
  | .func, .func (.func _) _ _, .nilFunc => some false
  | .iface, .nilIface, .iface _ _ => some false
  | .iface, .iface _ _, .nilIface => some false
  | .flat ks, .agg xs, .agg ys => flatEq ks xs.toList ys.toList
  | _, _, _ => none

def binA (op : BinOp) (flat : EK) (x y : Value) : Option Value :=
  match op, x, y with
  | .shl, .int k a, .int _ b => shiftBin .shl k a b
  | .shr, .int k a, .int _ b => shiftBin .shr k a b
  | op, .int k a, .int l b => if k = l then intBin op k a b else none
  | op, .string a, .string b => strBin op a b
  | .eql, x, y => match otherEq flat x y with | some b => some (.bool b) | none => none
  | .neq, x, y => match otherEq flat x y with | some b => some (.bool (!b)) | none => none
  | _, _, _ => none

def unA (op : UnOp) (x : Value) : Option Value :=
  match op, x with
  | .neg, .int k n => some (.int k (k.wrap (0 - n)))
  | .xor, .int k n => intBin .xor k (if k.signed then -1 else k.max) n
  | .not, .bool b => some (.bool (!b))
  | _, _ => none

def bound (x : Value) (y : Nat) : Option Nat :=
  match x with
  | .int _ i => if 0 ≤ i ∧ i ≤ (y : Int) then some i.toNat else none
  | _ => none

def boundHi (hi : Option Value) (y : Nat) : Option Nat :=
  match hi with
  | some v => bound v y
  | none => some y

def boundLo (lo : Option Value) (y : Nat) : Option Nat :=
  match lo with
  | some v => bound v y
  | none => some 0

def minmaxA (isMax : Bool) : Value → List Value → Option Value
  | x, [] => some x
  | .int k a, .int l b :: rest => if k = l then minmaxA isMax (.int k (if isMax then (if a < b then b else a) else (if b < a then b else a))) rest else none
  | _, _ => none

def strCells (s : ByteArray) : List Value := s.data.toList.map fun b => .int .u8 b.toNat

/-- What is to be appended: how many elements, and their cells. -/
def appCells (σ : AHeap) (sz : Nat) : Value → Option (Nat × List Value)
  | .slice none _ _ => some (0, [])
  | .slice (some a) n _ => cond (Nat.beq n 0) (some (0, [])) (match σ.cells a (n * sz) with | some cs => some (n, cs) | none => none)
  | .func (.yield n) xs _ => cond (Nat.beq xs.toList.length (n * sz)) (some (n, xs.toList)) none
  | .string s => cond (Nat.beq sz 1) (some (s.size, strCells s)) none
  | _ => none

def appendA (e : TypeId) (sz bytes : Nat) (s x : Value) (σ : AHeap) : Option (Value × AHeap) :=
  match appCells σ sz x with
  | none => none
  | some (n, new) =>
    match s with
    | .slice none l _ =>
      cond (Nat.beq l 0) (cond (Nat.beq n 0) (some (.slice none 0 0, σ))
        (cond (Nat.ble (n * bytes) 140737488355328 && Nat.ble n 140737488355328)
          (some (.slice (some ⟨σ.size, 0, none⟩) n 1, σ.push ⟨new, e, true⟩)) none)) none
    | .slice (some a) l fl =>
      cond (Nat.beq n 0) (some (s, σ)) (
      match σ.get a.block with
      | none => none
      | some o =>
        cond (o.own && Nat.beq fl 1 && Nat.beq o.elem e && Nat.ble ((l + n) * bytes) 140737488355328 && Nat.ble (l + n) 140737488355328 && Nat.ble (l * sz) o.cells.length)
          (cond (Nat.ble ((l + n) * sz) o.cells.length)
            (some (.slice (some a) (l + n) 1, σ.put a.block ⟨setAt o.cells (l * sz) new, e, true⟩))
            (some (.slice (some ⟨σ.size, 0, none⟩) (l + n) 1, (σ.kill a.block).push ⟨o.cells.take (l * sz) ++ new, e, true⟩)))
          none)
    | _ => none

def copyA (sz : Nat) (d s : Value) (σ : AHeap) : Option (Value × AHeap) :=
  match appCells σ sz s with
  | none => none
  | some (n, new) =>
    match d with
    | .slice none _ _ => some (.int .i64 0, σ)
    | .slice (some a) dl _ =>
      cond (Nat.beq (min n dl) 0) (some (.int .i64 0, σ)) (
      match σ.get a.block with
      | none => none
      | some o =>
        cond (o.own && Nat.ble (a.off + (min n dl) * sz) o.cells.length)
          (some (.int .i64 (min n dl : Nat), σ.put a.block ⟨setAt o.cells a.off (new.take ((min n dl) * sz)), o.elem, true⟩)) none)
    | _ => none

/-- Operations that call nothing. -/
def op1 (ρ : Operand → Value) (σ : AHeap) : AOp → Option (Value × AHeap)
  | .mv x => some (ρ x, σ)
  | .pick c a b => match ρ c with | .bool true => some (ρ a, σ) | .bool false => some (ρ b, σ) | _ => none
  | .alloc e zc => some (.pointer (some ⟨σ.size, 0, none⟩), σ.push ⟨zc, e, true⟩)
  | .box e x => cond (storable (ρ x)) (some (.pointer (some ⟨σ.size, 0, none⟩), σ.push ⟨(ρ x).cells.toList, e, true⟩)) none
  | .build zc parts => match fillL zc (parts.map fun p => (p.1, p.2.1, ρ p.2.2)) with | some cs => some (.agg cs.toArray, σ) | none => none
  | .buildSlice e zc len parts => match fillL zc (parts.map fun p => (p.1, p.2.1, ρ p.2.2)) with
    | some cs => some (.slice (some ⟨σ.size, 0, none⟩) len 1, σ.push ⟨cs, e, true⟩) | none => none
  | .load sz x => match ρ x with
    | .pointer (some a) => (match σ.read sz a with | some v => some (v, σ) | none => none)
    | .func (.methodOf _ _) xs _ => (match partA sz xs.toList 0 with | some v => some (v, σ) | none => none)
    | _ => none
  | .store sz x v => match ρ x with
    | .pointer (some a) => (match σ.get a.block with
      | some o => cond (o.own && storable (ρ v) && Nat.beq (ρ v).cells.size sz && Nat.ble (a.off + sz) o.cells.length)
          (some (undef, σ.put a.block ⟨setAt o.cells a.off (ρ v).cells.toList, o.elem, true⟩)) none
      | none => none)
    | _ => none
  | .bin op flat x y => match binA op flat (ρ x) (ρ y) with | some v => some (v, σ) | none => none
  | .un op x => match unA op (ρ x) with | some v => some (v, σ) | none => none
  | .conv k x => match ρ x with | .int _ n => some (.int k (k.wrap n), σ) | _ => none
  | .strMv x => match ρ x with | .string s => some (.string s, σ) | _ => none
  | .mkI t x => some (.iface t (ρ x), σ)
  | .mkF f first captured => some (.func (.func f) (first.map ρ).toArray (captured.map ρ).toArray, σ)
  | .makeSlice e zc bytes l c => match ρ l, ρ c with
    | .int _ a, .int _ b => cond (decide (0 ≤ a) && decide (a ≤ b) && decide (b * bytes ≤ 140737488355328) && decide (b ≤ 140737488355328))
        (some (.slice (some ⟨σ.size, 0, none⟩) a.toNat 1, σ.push ⟨(List.replicate b.toNat zc).flatten, e, true⟩)) none
    | _, _ => none
  | .slcS x lo hi => match ρ x with
    | .string s => (match boundHi (hi.map ρ) s.size with
      | some h => (match boundLo (lo.map ρ) h with | some l => some (.string (s.extract l h), σ) | none => none)
      | none => none)
    | _ => none
  | .slc sz x lo hi => match ρ x with
    | .slice none _ _ => (match boundHi (hi.map ρ) 0 with
      | some h => (match boundLo (lo.map ρ) h with | some _ => some (.slice none 0 0, σ) | none => none)
      | none => none)
    | .slice (some a) len fl => (match boundHi (hi.map ρ) len with
      | some h => (match boundLo (lo.map ρ) h with
        | some l => some (.slice (some ⟨a.block, a.off + l * sz, none⟩) (h - l) (cond (Nat.beq l 0) fl 0), σ)
        | none => none)
      | none => none)
    | .func (.yield n) xs _ => (match boundHi (hi.map ρ) n with
      | some h => (match boundLo (lo.map ρ) h with
        | some l => some (bvS (h - l) ((xs.toList.drop (l * sz)).take ((h - l) * sz)), σ)
        | none => none)
      | none => none)
    | _ => none
  | .slcA n sz x lo hi => match ρ x with
    | .pointer (some a) => (match boundHi (hi.map ρ) n with
      | some h => (match boundLo (lo.map ρ) h with
        | some l => some (.slice (some ⟨a.block, a.off + l * sz, none⟩) (h - l) 0, σ)
        | none => none)
      | none => none)
    | .func (.methodOf _ _) xs _ => (match boundHi (hi.map ρ) n with
      | some h => (match boundLo (lo.map ρ) h with
        | some l => some (bvS (h - l) ((xs.toList.drop (l * sz)).take ((h - l) * sz)), σ)
        | none => none)
      | none => none)
    | _ => none
  | .fieldAddr off x => match ρ x with
    | .pointer (some a) => some (.pointer (some ⟨a.block, a.off + off, none⟩), σ)
    | .func (.methodOf _ _) xs _ => some (bvP (xs.toList.drop off), σ)
    | _ => none
  | .field off sz x => match ρ x with | .agg cs => (match partA sz cs.toList off with | some v => some (v, σ) | none => none) | _ => none
  | .idxAddr none sz x i => match ρ x, ρ i with
    | .slice (some a) len _, .int _ j => if 0 ≤ j ∧ j < (len : Int) then some (.pointer (some ⟨a.block, a.off + j.toNat * sz, none⟩), σ) else none
    | .func (.yield n) xs _, .int _ j => if 0 ≤ j ∧ j < (n : Int) then some (bvP ((xs.toList.drop (j.toNat * sz)).take sz), σ) else none
    | _, _ => none
  | .idxAddr (some n) sz x i => match ρ x, ρ i with
    | .pointer (some a), .int _ j => if 0 ≤ j ∧ j < (n : Int) then some (.pointer (some ⟨a.block, a.off + j.toNat * sz, none⟩), σ) else none
    | .func (.methodOf _ _) xs _, .int _ j => if 0 ≤ j ∧ j < (n : Int) then some (bvP ((xs.toList.drop (j.toNat * sz)).take sz), σ) else none
    | _, _ => none
  | .idx len sz one x i => match ρ x, ρ i with
    | .agg cs, .int _ j => if 0 ≤ j ∧ j < (len : Int) then (match partA one cs.toList (j.toNat * sz) with | some v => some (v, σ) | none => none) else none
    | _, _ => none
  | .idxS x i => match ρ x, ρ i with
    | .string s, .int _ j => if 0 ≤ j then (match s.data.toList[j.toNat]? with | some b => some (.int .u8 b.toNat, σ) | none => none) else none
    | _, _ => none
  | .tassert x t zero ok => match ρ x with
    | .iface u v => cond (Nat.beq u t) (some (cond ok (.tuple #[v, .bool true]) v, σ)) (cond ok (some (.tuple #[zero, .bool false], σ)) none)
    | .nilIface => cond ok (some (.tuple #[zero, .bool false], σ)) none
    | _ => none
  | .ext x i => match ρ x with | .tuple vs => (match vs.toList[i]? with | some v => some (v, σ) | none => none) | _ => none
  | .nilCheck x => match ρ x with
    | .pointer (some a) => some (.pointer (some a), σ)
    | .func (.methodOf _ _) xs _ => some (bvP xs.toList, σ)
    | .func (.func f) a b => some (.func (.func f) a b, σ)
    | .iface t v => some (.iface t v, σ)
    | _ => none
  | .lenO true x => match ρ x with | .string s => some (.int .i64 s.size, σ) | _ => none
  | .lenO false x => match ρ x with | .slice _ n _ => some (.int .i64 n, σ) | .func (.yield n) _ _ => some (.int .i64 n, σ) | _ => none
  | .lenC n => some (.int .i64 n, σ)
  | .minmax isMax xs => match xs.map ρ with
    | x :: rest => (match minmaxA isMax x rest with | some v => some (v, σ) | none => none)
    | [] => none
  | .append e sz bytes s x => appendA e sz bytes (ρ s) (ρ x) σ
  | .copy sz d s => copyA sz (ρ d) (ρ s) σ
  | .call _ _ => none
  | .invoke _ _ _ => none

abbrev CallF := FuncId → List Value → AHeap → Option (Value × AHeap)

def findTab (t : TypeId) : List (TypeId × FuncId × RecvMode) → Option (FuncId × RecvMode)
  | [] => none
  | (u, r) :: rest => cond (Nat.beq u t) (some r) (findTab t rest)

def recvOf (σ : AHeap) (v : Value) : RecvMode → Option Value
  | .direct => some v
  | .deref sz => match v with | .pointer (some a) => σ.read sz a | .func (.methodOf _ _) xs _ => partA sz xs.toList 0 | _ => none

def op2 (cf : CallF) (ρ : Operand → Value) (σ : AHeap) (op : AOp) : Option (Value × AHeap) :=
  match op with
  | .call f args => match ρ f with
    | .func (.func g) first captured => cf g (first.toList ++ (args.map ρ ++ captured.toList)) σ
    | _ => none
  | .invoke tab x args => match ρ x with
    | .iface t v => (match findTab t tab with
      | some (g, mode) => (match recvOf σ v mode with | some u => cf g (u :: args.map ρ) σ | none => none)
      | none => none)
    | _ => none
  | op => op1 ρ σ op

def wantedA (τ : Tmps) : Option (Option Tmp × Bool) → Option Bool
  | none => some true
  | some (none, _) => some false
  | some (some t, want) => match Tmps.at τ t with | .bool b => some (b == want) | .chan _ => none | _ => some false

def putA (τ : Tmps) (dst : Option Tmp) (v : Value) : Tmps :=
  match dst with
  | some d => τ.set d (some v)
  | none => τ

def evalOps (cf : CallF) : List AOper → Tmps → AHeap → Option (Tmps × AHeap)
  | [], τ, σ => some (τ, σ)
  | o :: rest, τ, σ =>
    match wantedA τ o.guard with
    | none => none
    | some true => (match op2 cf (opd τ) σ o.op with
      | some (v, σ') => evalOps cf rest (putA τ o.dst v) σ'
      | none => none)
    | some false => evalOps cf rest (putA τ o.dst undef) σ

/-! In a region that draws its order: the heaps behind each writer are kept, and the blocks that a checked load reads. -/
def isWriter : AOp → Bool
  | .call _ _ | .invoke _ _ _ | .append .. | .store .. | .copy .. => true
  | _ => false

def loadsAt (ρ : Operand → Value) : AOp → Nat
  | .load _ x => match ρ x with | .pointer (some a) => a.block | _ => 0
  | _ => 0

/-- The writers that an operation is to be checked against: none, if it loads nothing from the heap. -/
def chkOf (ρ : Operand → Value) (o : AOper) : List Nat :=
  match o.op with
  | .load _ x => (match ρ x with | .pointer (some _) => o.chk | _ => [])
  | _ => o.chk

/-- Every address in a cell lies in a block below n. -/
def valBnd (n : Nat) : Value → Bool
  | .bool _ | .int _ _ | .string _ | .pointer none | .nilFunc | .nilIface => true
  | .slice none _ _ => true
  | .pointer (some a) | .slice (some a) _ _ => Nat.blt a.block n
  | .iface _ v => valBnd n v
  | .func (.func _) xs ys => xs.isEmpty && ys.isEmpty
  | .func (.yield _) _ _ | .func (.methodOf _ _) _ _ => true
  | _ => false

def chkFine (chk : List Nat) (σ : AHeap) (id : Nat) : Bool :=
  chk.isEmpty || (match σ.get id with | some ob => ob.cells.all (valBnd σ.size) | none => false)

def evalOpsD (cf : Nat → CallF) : Nat → List AOper → Tmps → AHeap → List (Nat × AHeap × AHeap) → List (Nat × List Nat) → Option (Tmps × AHeap × List (Nat × AHeap × AHeap) × List (Nat × List Nat))
  | _, [], τ, σ, hs, ids => some (τ, σ, hs, ids)
  | k, o :: rest, τ, σ, hs, ids =>
    match wantedA τ o.guard with
    | none => none
    | some true => (match op2 (cf k) (opd τ) σ o.op with
      | some (v, σ') => cond (chkFine (chkOf (opd τ) o) σ (loadsAt (opd τ) o.op))
          (evalOpsD cf (k + 1) rest (putA τ o.dst v) σ' (cond (isWriter o.op) ((k, σ, σ') :: hs) hs) (cond (chkOf (opd τ) o).isEmpty ids ((loadsAt (opd τ) o.op, (chkOf (opd τ) o)) :: ids)))
          none
      | none => none)
    | some false => evalOpsD cf (k + 1) rest (putA τ o.dst undef) σ hs ids

/-- A Boolean equality of values, true at equal ones that are plain. -/
def addrEq (a b : Addr) : Bool := Nat.beq a.block b.block && Nat.beq a.off b.off && (match a.spot, b.spot with | none, none => true | some x, some y => Nat.beq x y | _, _ => false)

def valEq0 : Value → Value → Bool
  | .bool a, .bool b => a == b
  | .int k a, .int l b => decide (k = l) && decide (a = b)
  | .string a, .string b => a.data.toList == b.data.toList
  | .pointer none, .pointer none => true
  | .pointer (some a), .pointer (some b) => addrEq a b
  | .slice none l c, .slice none m d => Nat.beq l m && Nat.beq c d
  | .slice (some a) l c, .slice (some b) m d => addrEq a b && Nat.beq l m && Nat.beq c d
  | .nilFunc, .nilFunc => true
  | .nilIface, .nilIface => true
  | .func (.func f) xs ys, .func (.func g) xs' ys' => Nat.beq f g && (xs.isEmpty && ys.isEmpty) && (xs'.isEmpty && ys'.isEmpty)
  | _, _ => false

def valEq : Value → Value → Bool
  | .iface t v, .iface u w => Nat.beq t u && valEq0 v w
  | a, b => valEq0 a b

def valsEq : List Value → List Value → Bool
  | [], [] => true
  | a :: x, b :: y => valEq a b && valsEq x y
  | _, _ => false

def objEq : Option AObj → Option AObj → Bool
  | some x, some y => valsEq x.cells y.cells && Nat.beq x.elem y.elem && x.own == y.own
  | _, _ => false

def drawnOk (σ : AHeap) (hs : List (Nat × AHeap × AHeap)) (ids : List (Nat × List Nat)) : Bool :=
  ids.all fun i => Nat.blt i.1 σ.size && hs.all fun h => !i.2.contains h.1 || objEq (h.2.2.get i.1) (h.2.1.get i.1)

def loopN : Nat → (Tmps → AHeap → Option (AExit × Tmps × AHeap)) → Tmps → AHeap → Option (AExit × Tmps × AHeap)
  | 0, _, _, _ => none
  | n + 1, body, τ, σ =>
    match body τ σ with
    | some (.normal, τ', σ') => loopN n body τ' σ'
    | r => r

/-- The turns of a loop over a string's code points. -/
def strLoop (s : ByteArray) (id t7 t8 : Nat) (body : Tmps → AHeap → Option (AExit × Tmps × AHeap)) : Nat → Nat → Tmps → AHeap → Option (AExit × Tmps × AHeap)
  | 0, _, _, _ => none
  | n + 1, pos, τ, σ =>
    match Tmps.at τ t7 with
    | .pointer (some a) =>
      cond (Nat.beq a.block id && Nat.beq a.off 0)
        (cond (Nat.blt pos s.size)
          (match body (τ.set t8 (some (.tuple #[.bool true, .int .i64 pos, .int .i32 (Utf8.decode s pos).1]))) σ with
            | some (.normal, τ', σ') => strLoop s id t7 t8 body n (pos + (Utf8.decode s pos).2) τ' σ'
            | r => r)
          (match body (τ.set t8 (some (.tuple #[.bool false]))) σ with
            | some (.normal, _, _) => none
            | r => r))
        none
    | _ => none

def leave (k : Nat) : Option (AExit × Tmps × AHeap) → Option (AExit × Tmps × AHeap)
  | some (.exit j, τ', σ') => cond (Nat.beq j k) (some (.normal, τ', σ')) (some (.exit j, τ', σ'))
  | r => r

def evalC (cf : CallF) (n : Nat) : ACode → Tmps → AHeap → Option (AExit × Tmps × AHeap)
  | .skip, τ, σ => some (.normal, τ, σ)
  | .region ops, τ, σ => match evalOps cf ops τ σ with | some (τ', σ') => some (.normal, τ', σ') | none => none
  | .dregion ops, τ, σ => match evalOpsD (fun _ => cf) 0 ops τ σ [] [] with
    | some (τ', σ', hs, ids) => cond (drawnOk σ hs ids) (some (.normal, τ', σ')) none
    | none => none
  | .seq a b, τ, σ => match evalC cf n a τ σ with
    | some (.normal, τ', σ') => evalC cf n b τ' σ'
    | r => r
  | .cond c a b, τ, σ => match opd τ c with
    | .bool true => evalC cf n a τ σ
    | .bool false => evalC cf n b τ σ
    | _ => none
  | .block id c, τ, σ => match evalC cf n c τ σ with
    | some (.exit j, τ', σ') => cond (Nat.beq j id) (some (.normal, τ', σ')) (some (.exit j, τ', σ'))
    | r => r
  | .loop c, τ, σ => loopN n (evalC cf n c) τ σ
  | .strRange pre x t7 t8 k post c, τ, σ => match evalOps cf pre τ σ with
    | some (τ1, σ1) => (match opd τ1 x with
      | .string s => leave k (strLoop s σ1.size t7 t8 (fun τ σ => match evalOps cf post τ σ with | some (τ', σ') => evalC cf n c τ' σ' | none => none) n 0 (τ1.set t7 (some (.pointer (some ⟨σ1.size, 0, none⟩)))) σ1.skip)
      | _ => none)
    | none => none
  | .exit id, τ, σ => some (.exit id, τ, σ)
  | .ret, τ, σ => some (.ret, τ, σ)
  | .fail, _, _ => none

def ofArgs (i : Nat) : List Value → Tmps → Tmps
  | [], τ => τ
  | v :: rest, τ => ofArgs (i + 1) rest (τ.set i (some v))

def resOf (τ : Tmps) (σ : AHeap) : Sum Tmp (Tmp × Option Nat) → Option Value
  | .inl t => some (Tmps.at τ t)
  | .inr (t, sz) => match Tmps.at τ t with
    | .pointer (some a) => σ.read sz a
    | _ => none

def resAll (τ : Tmps) (σ : AHeap) : List (Sum Tmp (Tmp × Option Nat)) → Option (List Value)
  | [] => some []
  | r :: rest => match resOf τ σ r with
    | some v => (match resAll τ σ rest with | some vs => some (v :: vs) | none => none)
    | none => none

def packRes : List Value → Value
  | [v] => v
  | vs => .tuple vs.toArray

def stepF (cf : CallF) (A : AProg) (n : Nat) (f : FuncId) (args : List Value) (σ : AHeap) : Option (Value × AHeap) :=
  match A f with
  | none => none
  | some F =>
    match evalC cf n F.code (ofArgs 0 args .nil) σ with
    | some (.normal, τ, σ') | some (.ret, τ, σ') => (match resAll τ σ' F.res with | some vs => some (packRes vs, σ') | none => none)
    | _ => none

def evalF (A : AProg) : Nat → FuncId → List Value → AHeap → Option (Value × AHeap)
  | 0, _, _, _ => none
  | n + 1, f, args, σ => stepF (evalF A n) A n f args σ

/-- The same over calls that are known already. -/
def evalX (X : CallF) (A : AProg) : Nat → FuncId → List Value → AHeap → Option (Value × AHeap)
  | 0, f, args, σ => X f args σ
  | n + 1, f, args, σ => match X f args σ with
    | some r => some r
    | none => stepF (evalX X A n) A n f args σ

end Go.Bx

namespace Go.Bx

/-- A constant without addresses. -/
def closedV : Value → Bool
  | .bool _ | .int _ _ | .string _ | .pointer none | .nilFunc | .nilIface => true
  | .slice none l c => Nat.beq l 0 && Nat.beq c 0
  | .agg cs => cs.toList.all fun v => match v with
    | .bool _ | .int _ _ | .string _ | .pointer none | .nilFunc | .nilIface => true
    | .slice none l c => Nat.beq l 0 && Nat.beq c 0
    | _ => false
  | _ => false

def okOpd : Operand → Bool
  | .tmp _ => true
  | .const v => closedV v
  | .global _ => false
  | .func _ => true

def sizeT (P : Program) (t : TypeId) : Option Nat := (P.info? t).map (·.size)

def flatFs (flat : TypeId → Option (List CK)) : List Field → Nat → Option (List CK)
  | [], _ => some []
  | f :: fs, off =>
    match flat f.type with
    | some ks => if f.name ≠ "_" ∧ f.offset = off then (match flatFs flat fs (off + ks.length) with | some r => some (ks ++ r) | none => none) else none
    | none => none

/-- The kinds of the cells of a type whose values are integers, Booleans, strings, and structs and arrays of these. -/
def flatT (P : Program) : Nat → TypeId → Option (List CK)
  | 0, _ => none
  | d + 1, t =>
    match P.underlying t, sizeT P t with
    | some (.int _), some 1 => some [.int]
    | some .bool, some 1 => some [.bool]
    | some .string, some 1 => some [.str]
    | some (.struct fs), some n => (match flatFs (flatT P d) fs.toList 0 with
      | some ks => if P.stoodInHeld t = false ∧ ks.length = n then some ks else none
      | none => none)
    | some (.array l e), some n => (match flatT P d e with
      | some ks => if l * ks.length = n ∧ sizeT P e = some ks.length then some (List.replicate l ks).flatten else none
      | none => none)
    | _, _ => none

def flatB (P : Program) (t : TypeId) : Option (List CK) := if P.eqGuardType P.depth t = false then flatT P 20 t else none

def eqKind (P : Program) (t : TypeId) : EK :=
  match P.underlying t with
  | some .bool => .bool
  | some (.pointer _) => .ptr
  | some (.slice _) => .slice
  | some (.func _ _ _) => .func
  | some (.interface _) => .iface
  | some (.struct _) | some (.array _ _) => (match flatB P t with | some ks => .flat ks | none => .no)
  | _ => .no

def oneOrAgg (P : Program) (t : TypeId) : Option (Option Nat) :=
  match P.underlying t, P.info? t with
  | some (.struct _), some i | some (.array _ _), some i => some (some i.size)
  | some _, some _ => some none
  | _, _ => none

/-- The zero cells of a type. -/
def zeroOf (P : Program) (t : TypeId) : Option (List Value) :=
  match P.info? t with
  | some i => (match i.zero with
    | some z => if closedV z && storable z then some z.cells.toList else none
    | none => none)
  | none => none

def places (P : Program) (fs : Array Field) : Nat → Option (Nat × Nat) := fun i =>
  match fs[i]? with
  | some f => (sizeT P f.type).map fun s => (f.offset, s)
  | none => none

def partsWith (place : Nat → Option (Nat × Nat)) : List (Nat × Operand) → Option (List (Nat × Nat × Operand))
  | [] => some []
  | (i, x) :: rest =>
    match place i, partsWith place rest with
    | some (off, s), some r => some ((off, s, x) :: r)
    | _, _ => none

def methodTab (P : Program) (name : String) : List (TypeId × FuncId × RecvMode) :=
  (List.range P.types.size).filterMap fun t =>
    match P.info? t with
    | some i => (match i.methods.find? (·.name == name) with
      | some m => if m.path.isEmpty then (match m.func with
          | some (f, true) => (match P.underlying t with | some (.pointer _) => some (t, f, .direct) | _ => none)
          | some (f, false) => (match P.underlying t with
            | some (.pointer e) => (match oneOrAgg P e with | some sz => some (t, f, .deref sz) | none => none)
            | some _ => some (t, f, .direct)
            | none => none)
          | none => none) else none
      | none => none)
    | none => none

def compOp (P : Program) (op : Op) : Option AOp :=
  match op with
  | .move x | .assign x => some (.mv x)
  | .pick c a b => some (.pick c a b)
  | .alloc e => (zeroOf P e).map fun z => .alloc e z
  | .box e x => some (.box e x)
  | .build t parts => do
    let z ← zeroOf P t
    match P.underlying t with
    | some (.struct fs) => if fs.toList.all (fun f => (sizeT P f.type).isSome) then do some (.build z (← partsWith (places P fs) parts.toList)) else none
    | some (.array _ e) => do
      let s ← sizeT P e
      some (.build z (← partsWith (fun i => some (i * s, s)) parts.toList))
    | _ => none
  | .buildSlice t len parts =>
    match P.underlying t with
    | some (.slice e) => do
      let s ← sizeT P e
      let z ← zeroOf P e
      if len * s ≤ 2 ^ 24 ∧ z.length = s then some (.buildSlice e ((List.replicate len z).flatten) len (← partsWith (fun i => some (i * s, s)) parts.toList)) else none
    | _ => none
  | .load t x => (oneOrAgg P t).map fun s => .load s x
  | .store t x v => (sizeT P t).map fun s => .store s x v
  | .nilCheck x => some (.nilCheck x)
  | .binOp op t x y _ => some (.bin op (eqKind P t) x y)
  | .unOp op _ x => some (.un op x)
  | .convert src dst x =>
    match P.underlying src, P.underlying dst with
    | some (.int _), some (.int k) => some (.conv k x)
    | some .string, some .string => some (.strMv x)
    | _, _ => none
  | .makeInterface t x => match P.underlying t with
    | some (.interface _) => none
    | some _ => some (.mkI t x)
    | none => none
  | .makeFunc (.func f) first captured => some (.mkF f first.toList captured.toList)
  | .makeSlice t l c =>
    match P.underlying t with
    | some (.slice e) => do
      let i ← P.info? e
      let z ← zeroOf P e
      if z.length = i.size then some (.makeSlice e z i.bytes l c) else none
    | _ => none
  | .slice t x lo hi none =>
    match P.underlying t with
    | some .string => some (.slcS x lo hi)
    | some (.slice e) => do some (.slc (← sizeT P e) x lo hi)
    | some (.array n e) => do some (.slcA n (← sizeT P e) x lo hi)
    | _ => none
  | .fieldAddr t x f =>
    match P.underlying t with
    | some (.struct fs) => (match fs[f]? with
      | some fl => (match sizeT P fl.type with
        | some s => if s = 0 then none else some (.fieldAddr fl.offset x)
        | none => none)
      | none => none)
    | _ => none
  | .field t x f =>
    match P.underlying t with
    | some (.struct fs) => (match fs[f]? with
      | some fl => (oneOrAgg P fl.type).map fun s => .field fl.offset s x
      | none => none)
    | _ => none
  | .indexAddr t x i =>
    match P.underlying t with
    | some (.slice e) => (sizeT P e).map fun s => .idxAddr none s x i
    | some (.array n e) => (sizeT P e).map fun s => .idxAddr (some n) s x i
    | _ => none
  | .index t x i =>
    match P.underlying t with
    | some .string => some (.idxS x i)
    | some (.array n e) => do some (.idx n (← sizeT P e) (← oneOrAgg P e) x i)
    | _ => none
  | .typeAssert x _ t ok =>
    match P.underlying t, P.info? t with
    | some (.interface _), _ => none
    | some _, some i => (match i.zero with | some z => if closedV z then some (.tassert x t z ok) else none | none => none)
    | _, _ => none
  | .extract x i => some (.ext x i)
  | .call c =>
    match c.callee with
    | .value f => some (.call f c.args.toList)
    | .invoke r name => some (.invoke (methodTab P name) r c.args.toList)
    | .builtin .append =>
      match c.argTypes.toList, c.args.toList with
      | [t, u], [s, x] => (match P.underlying t, P.underlying u with
        | some (.slice e), some (.slice _) | some (.slice e), some .string => (match P.info? e with
          | some i => (match i.zero with
            | some z => if 0 < i.size ∧ z.cells.size = i.size then some (.append e i.size i.bytes s x) else none
            | none => none)
          | none => none)
        | _, _ => none)
      | _, _ => none
    | .builtin .copy =>
      match c.argTypes.toList, c.args.toList with
      | [t, _], [d, s] => (match P.underlying t with
        | some (.slice e) => (sizeT P e).map fun z => .copy z d s
        | _ => none)
      | _, _ => none
    | .builtin .len =>
      match c.argTypes.toList, c.args.toList with
      | [t], [x] => (match P.underlying t with
        | some .string => some (.lenO true x)
        | some (.slice _) => some (.lenO false x)
        | some (.array n _) => some (.lenC n)
        | some (.pointer a) => (match P.underlying a with | some (.array n _) => some (.lenC n) | _ => none)
        | _ => none)
      | _, _ => none
    | .builtin .min => some (.minmax false c.args.toList)
    | .builtin .max => some (.minmax true c.args.toList)
    | _ => none
  | _ => none

/-- The bits of what comes before each operation, by the edges that bind. -/
def masks (ops : List Oper) : List Nat :=
  ops.foldl (init := []) fun acc o =>
    acc ++ [o.after.toList.foldl (fun s e => cond (Region.binds .any e) (s ||| (2 ^ e.on ||| acc.getD e.on 0)) s) 0]

def ordered (ms : List Nat) (i j : Nat) : Bool := cond (Nat.blt i j) ((ms.getD j 0).testBit i) (Nat.beq i j || (ms.getD i 0).testBit j)

def opdTmps : List Operand → List Tmp
  | [] => []
  | .tmp t :: r => t :: opdTmps r
  | _ :: r => opdTmps r

def dstOf (ops : List Oper) (j : Nat) : Option Tmp := (ops[j]?).bind (·.dst)

def namesOf (ops : List Oper) (o : Oper) : List Tmp :=
  o.dst.toList ++ (opdTmps o.op.operands.toList ++ (match o.guard with | some (j, _) => (dstOf ops j).toList | none => []))

/-- Each temporary's writers and readers are in order. -/
def tmpsOk (ops : List Oper) (ms : List Nat) : Bool :=
  ops.zipIdx.all fun (o, i) => (namesOf ops o).all fun t => ops.zipIdx.all fun (p, j) => Nat.beq i j || p.dst != some t || ordered ms i j

/-- The edges that bind lead back. -/
def edgesOk (ops : List Oper) : Bool :=
  ops.zipIdx.all fun (o, i) => o.after.toList.all fun e => !Region.binds .any e || Nat.blt e.on i

def writersOk (cs : List AOper) (ms : List Nat) : Bool :=
  cs.zipIdx.all fun (o, i) => !isWriter o.op || cs.zipIdx.all fun (p, j) => !isWriter p.op || ordered ms i j

def isLoad : AOp → Bool
  | .load _ _ => true
  | _ => false

/-- The writers that are not ordered with an operation. -/
def needsChk (cs : List AOper) (ms : List Nat) (i : Nat) : List Nat :=
  (cs.zipIdx.filter fun (p, j) => isWriter p.op && !ordered ms i j).map (·.2)

def okDst (nt : Nat) : Option Tmp → Bool
  | some d => Nat.blt d nt
  | none => true

def compOper (P : Program) (ops : List Oper) (ntmps : Nat) (o : Oper) : Option AOper :=
  match compOp P o.op with
  | some op => if o.op.operands.toList.all okOpd && okDst ntmps o.dst then
      some { dst := o.dst, op, guard := o.guard.map fun (j, w) => (dstOf ops j, w), chk := [] } else none
  | none => none

def compOpers (P : Program) (ops : List Oper) (ntmps : Nat) : List Oper → Option (List AOper)
  | [] => some []
  | o :: rest => match compOper P ops ntmps o, compOpers P ops ntmps rest with
    | some x, some r => some (x :: r)
    | _, _ => none

/-- A region whose last operation begins to range over a string: what goes before it, the string, the iterator. -/
def asRange (P : Program) (nt : Nat) (ops : Array Oper) : Option (List AOper × Operand × Tmp) :=
  match ops[ops.size - 1]? with
  | some ⟨some d, .range t x, _, _, _, none⟩ =>
    (match P.underlying t, compOpers P ops.toList nt (ops.toList.take (ops.size - 1)) with
    | some .string, some pre => if okOpd x && Nat.blt d nt then some (pre, x, d) else none
    | _, _ => none)
  | _ => none

/-- A region whose first operation takes the next code point out of the iterator 't7'. -/
def asNext (P : Program) (nt : Nat) (t7 : Tmp) (ops : Array Oper) : Option (Tmp × List AOper) :=
  match ops[(0 : Nat)]? with
  | some ⟨some d, .next (.tmp t) true, _, _, _, none⟩ =>
    (match compOpers P ops.toList nt (ops.toList.drop 1) with
    | some post => if Nat.beq t t7 && Nat.blt d nt then some (d, post) else none
    | none => none)
  | _ => none

def compC (P : Program) (ntmps : Nat) : Code → Option ACode
  | .skip => some .skip
  | .region _ ops false => match compOpers P ops.toList ntmps ops.toList with
    | some cs => some (.region cs)
    | none => some .fail
  | .region _ ops true =>
    match compOpers P ops.toList ntmps ops.toList with
    | some cs =>
      let ms := masks ops.toList
      if tmpsOk ops.toList ms && writersOk cs ms && edgesOk ops.toList then
        some (.dregion (cs.zipIdx.map fun (c, i) => { c with chk := cond (isLoad c.op) (needsChk cs ms i) [] }))
      else some .fail
    | none => some .fail
  | .seq (.region i ops false) (.block k (.loop (.seq (.region j nx false) c))) =>
    match asRange P ntmps ops with
    | some (pre, x, t7) => (match asNext P ntmps t7 nx, compC P ntmps c with
      | some (t8, post), some z => some (.strRange pre x t7 t8 k post z)
      | _, _ => none)
    | none => match compC P ntmps (.region i ops false), compC P ntmps (.block k (.loop (.seq (.region j nx false) c))) with | some x, some y => some (.seq x y) | _, _ => none
  | .seq a b => match compC P ntmps a, compC P ntmps b with | some x, some y => some (.seq x y) | _, _ => none
  | .cond c a b => match compC P ntmps a, compC P ntmps b with | some x, some y => if okOpd c then some (.cond c x y) else none | _, _ => none
  | .block id c => (compC P ntmps c).map (.block id)
  | .scope c => compC P ntmps c
  | .label _ => some .skip
  | .loop c => (compC P ntmps c).map .loop
  | .exit id => some (.exit id)
  | .ret => some .ret
  | _ => some .fail

def compRes (P : Program) : List ResultVar → Option (List (Sum Tmp (Tmp × Option Nat)))
  | [] => some []
  | .tmp t :: r => (compRes P r).map (.inl t :: ·)
  | .cell a t :: r => match oneOrAgg P t, compRes P r with | some s, some rs => some (.inr (a, s) :: rs) | _, _ => none

def compF (P : Program) (f : FuncId) : Option AFunc :=
  match P.funcs[f]? with
  | some fn => (match fn.body with
    | some c => (match compC P fn.ntmps c, compRes P fn.results.toList with
      | some code, some res => if fn.name != "runtime.NumGoroutine" then some { code, res } else none
      | _, _ => none)
    | none => none)
  | none => none

end Go.Bx

namespace Go.Bx

inductive St where
  | absent
  | dead (pin : Option Nat)
  | live (blk base : Nat) (cap : Option Nat)

/-- Where the interpreter's blocks lie in the model, and which of the model's blocks are never written again. -/
structure Phi where
  st : Nat → St
  fz : Nat → Option (Array Value)
instance : CoeFun Phi (fun _ => Nat → St) := ⟨Phi.st⟩

/-! ### Values that read memory which is never written again -/
mutual
inductive FRel (z : Nat → Option (Array Value)) : Value → Value → Prop where
  | bool (b : Bool) : FRel z (.bool b) (.bool b)
  | int (k : IntKind) (n : Int) : FRel z (.int k n) (.int k n)
  | string (s : ByteArray) : FRel z (.string s) (.string s)
  | ptrN : FRel z (.pointer none) (.pointer none)
  | slcN : FRel z (.slice none 0 0) (.slice none 0 0)
  | func (f : FuncId) {xs xs' ys ys' : Array Value} (hx : FsRel z xs.toList xs'.toList) (hy : FsRel z ys.toList ys'.toList) : FRel z (.func (.func f) xs ys) (.func (.func f) xs' ys')
  | nilFunc : FRel z .nilFunc .nilFunc
  | nilIface : FRel z .nilIface .nilIface
  | iface (t : TypeId) {v v' : Value} (h : FRel z v v') : FRel z (.iface t v) (.iface t v')
  | agg {xs ys : Array Value} (h1 : ∀ x ∈ xs.toList, x.one1 = true) (h : FsRel z xs.toList ys.toList) : FRel z (.agg xs) (.agg ys)
  | tuple {xs ys : Array Value} (h : FsRel z xs.toList ys.toList) : FRel z (.tuple xs) (.tuple ys)
  | bvn : FRel z (.func (.yield 0) #[] #[]) (.slice none 0 0)
  | bve (a' : Addr) (c : Nat) : FRel z (.func (.yield 0) #[] #[]) (.slice (some a') 0 c)
  | bvs {n c : Nat} {xs mc : Array Value} {a' : Addr} (hc : n ≤ c) (hz : z a'.block = some mc) (hs : a'.spot = none) (h1 : ∀ x ∈ xs.toList, x.one1 = true)
      (h : FsRel z xs.toList ((mc.toList.drop a'.off).take xs.toList.length)) : FRel z (.func (.yield n) xs #[]) (.slice (some a') n c)
  | bvp {xs mc : Array Value} {a' : Addr} (hz : z a'.block = some mc) (hs : a'.spot = none) (h1 : ∀ x ∈ xs.toList, x.one1 = true)
      (h : FsRel z xs.toList ((mc.toList.drop a'.off).take xs.toList.length)) : FRel z (.func (.methodOf 0 "") xs #[]) (.pointer (some a'))
inductive FsRel (z : Nat → Option (Array Value)) : List Value → List Value → Prop where
  | nil : FsRel z [] []
  | cons {v v' : Value} {l l' : List Value} (h : FRel z v v') (hs : FsRel z l l') : FsRel z (v :: l) (v' :: l')
end

def FLe (z z' : Nat → Option (Array Value)) : Prop := ∀ b c, z b = some c → z' b = some c
theorem FLe.refl (z : Nat → Option (Array Value)) : FLe z z := fun _ _ h => h
theorem FLe.trans {a b c : Nat → Option (Array Value)} (h : FLe a b) (h' : FLe b c) : FLe a c := fun i x hx => h' i x (h i x hx)

mutual
theorem FRel.mono {z z' : Nat → Option (Array Value)} (hl : FLe z z') : ∀ {v v' : Value}, FRel z v v' → FRel z' v v'
  | _, _, .bool b => .bool b
  | _, _, .int k n => .int k n
  | _, _, .string s => .string s
  | _, _, .ptrN => .ptrN
  | _, _, .slcN => .slcN
  | _, _, .func f hx hy => .func f (FsRel.mono hl hx) (FsRel.mono hl hy)
  | _, _, .nilFunc => .nilFunc
  | _, _, .nilIface => .nilIface
  | _, _, .iface t h => .iface t (FRel.mono hl h)
  | _, _, .agg h1 h => .agg h1 (FsRel.mono hl h)
  | _, _, .tuple h => .tuple (FsRel.mono hl h)
  | _, _, .bvn => .bvn
  | _, _, .bve a c => .bve a c
  | _, _, .bvs hc hz hs h1 h => .bvs hc (hl _ _ hz) hs h1 (FsRel.mono hl h)
  | _, _, .bvp hz hs h1 h => .bvp (hl _ _ hz) hs h1 (FsRel.mono hl h)
theorem FsRel.mono {z z' : Nat → Option (Array Value)} (hl : FLe z z') : ∀ {l l' : List Value}, FsRel z l l' → FsRel z' l l'
  | _, _, .nil => .nil
  | _, _, .cons h hs => .cons (FRel.mono hl h) (FsRel.mono hl hs)
end

def ARel (φ : Phi) (a a' : Addr) : Prop :=
  match φ a.block with
  | .live b o _ => a' = ⟨b, o + a.off, none⟩
  | .dead p => ∀ b, p = some b → a' = ⟨b, a.off, none⟩
  | .absent => False

def FlagRel (φ : Phi) (a a' : Addr) (c : Nat) : Prop :=
  a.off = 0 ∧ match φ a.block with
  | .live b o k => o = 0 ∧ a' = ⟨b, 0, none⟩ ∧ k = some c
  | .dead _ => True
  | .absent => False

mutual
inductive VRel (φ : Phi) : Value → Value → Prop where
  | bool (b : Bool) : VRel φ (.bool b) (.bool b)
  | int (k : IntKind) (n : Int) : VRel φ (.int k n) (.int k n)
  | string (s : ByteArray) : VRel φ (.string s) (.string s)
  | ptrN : VRel φ (.pointer none) (.pointer none)
  | ptr {a a' : Addr} (h : ARel φ a a') : VRel φ (.pointer (some a)) (.pointer (some a'))
  | slcN : VRel φ (.slice none 0 0) (.slice none 0 0)
  | slc {a a' : Addr} {n fl c : Nat} (h0 : n = 0 ∨ ARel φ a a') (hc : n ≤ c) (h1 : fl = 1 → FlagRel φ a a' c) : VRel φ (.slice (some a) n fl) (.slice (some a') n c)
  | func (f : FuncId) {xs xs' ys ys' : Array Value} (hx : VsRel φ xs.toList xs'.toList) (hy : VsRel φ ys.toList ys'.toList) : VRel φ (.func (.func f) xs ys) (.func (.func f) xs' ys')
  | nilFunc : VRel φ .nilFunc .nilFunc
  | nilIface : VRel φ .nilIface .nilIface
  | iface (t : TypeId) {v v' : Value} (h : VRel φ v v') : VRel φ (.iface t v) (.iface t v')
  | agg {xs ys : Array Value} (h1 : ∀ x ∈ xs.toList, x.one1 = true) (h : VsRel φ xs.toList ys.toList) : VRel φ (.agg xs) (.agg ys)
  | tuple {xs ys : Array Value} (h : VsRel φ xs.toList ys.toList) : VRel φ (.tuple xs) (.tuple ys)
  | top (v' : Value) : VRel φ top v'
  | bvs {n : Nat} {xs ys : Array Value} {v' : Value} (h : FRel φ.fz (.func (.yield n) xs ys) v') : VRel φ (.func (.yield n) xs ys) v'
  | bvp {t : TypeId} {nm : String} {xs ys : Array Value} {v' : Value} (h : FRel φ.fz (.func (.methodOf t nm) xs ys) v') : VRel φ (.func (.methodOf t nm) xs ys) v'
inductive VsRel (φ : Phi) : List Value → List Value → Prop where
  | nil : VsRel φ [] []
  | cons {v v' : Value} {l l' : List Value} (h : VRel φ v v') (hs : VsRel φ l l') : VsRel φ (v :: l) (v' :: l')
end

structure Le (φ φ' : Phi) : Prop where
  st : ∀ i, φ i ≠ .absent → φ' i = φ i ∨ (φ' i = .dead none ∧ ∀ b, φ i ≠ .dead (some b))
  fz : FLe φ.fz φ'.fz
instance {φ φ' : Phi} : CoeFun (Le φ φ') (fun _ => ∀ i, φ i ≠ .absent → φ' i = φ i ∨ (φ' i = .dead none ∧ ∀ b, φ i ≠ .dead (some b))) := ⟨Le.st⟩
theorem Le.refl (φ : Phi) : Le φ φ := ⟨fun _ _ => .inl rfl, FLe.refl _⟩
theorem Le.trans {a b c : Phi} (h : Le a b) (h' : Le b c) : Le a c := ⟨fun i hi => by
  rcases h i hi with e | ⟨e, u⟩
  · rcases h' i (by rw [e]; exact hi) with e' | ⟨e', u'⟩
    · exact .inl (e'.trans e)
    · exact .inr ⟨e', fun x => by rw [← e]; exact u' x⟩
  · rcases h' i (by rw [e]; simp) with e' | ⟨e', _⟩
    · exact .inr ⟨e'.trans e, u⟩
    · exact .inr ⟨e', u⟩, h.fz.trans h'.fz⟩

theorem ARel.mono {φ φ' : Phi} {a a' : Addr} (hl : Le φ φ') (h : ARel φ a a') : ARel φ' a a' := by
  unfold ARel at *
  cases hs : φ a.block with
  | absent => simp [hs] at h
  | dead p =>
    simp only [hs] at h
    rcases hl a.block (by simp [hs]) with e | ⟨e, u⟩
    · simpa [e, hs] using h
    · simp [e]
  | live b o k => rcases hl a.block (by simp [hs]) with e | ⟨e, u⟩ <;> simp_all

theorem FlagRel.mono {φ φ' : Phi} {a a' : Addr} {c : Nat} (hl : Le φ φ') (h : FlagRel φ a a' c) : FlagRel φ' a a' c := by
  unfold FlagRel at *
  refine ⟨h.1, ?_⟩
  have h := h.2
  cases hs : φ a.block with
  | absent => simp [hs] at h
  | dead p => rcases hl a.block (by simp [hs]) with e | ⟨e, u⟩ <;> simp [e, hs]
  | live b o k => rcases hl a.block (by simp [hs]) with e | ⟨e, u⟩ <;> simp_all

mutual
theorem VRel.mono {φ φ' : Phi} (hl : Le φ φ') : ∀ {v v' : Value}, VRel φ v v' → VRel φ' v v'
  | _, _, .bool b => .bool b
  | _, _, .int k n => .int k n
  | _, _, .string s => .string s
  | _, _, .ptrN => .ptrN
  | _, _, .ptr h => .ptr (h.mono hl)
  | _, _, .slcN => .slcN
  | _, _, .slc h0 hc h1 => .slc (h0.imp id (·.mono hl)) hc (fun e => (h1 e).mono hl)
  | _, _, .func f hx hy => .func f (VsRel.mono hl hx) (VsRel.mono hl hy)
  | _, _, .nilFunc => .nilFunc
  | _, _, .nilIface => .nilIface
  | _, _, .iface t h => .iface t (VRel.mono hl h)
  | _, _, .agg h1 h => .agg h1 (VsRel.mono hl h)
  | _, _, .tuple h => .tuple (VsRel.mono hl h)
  | _, _, .top v => .top v
  | _, _, .bvs h => .bvs (h.mono hl.fz)
  | _, _, .bvp h => .bvp (h.mono hl.fz)
theorem VsRel.mono {φ φ' : Phi} (hl : Le φ φ') : ∀ {l l' : List Value}, VsRel φ l l' → VsRel φ' l l'
  | _, _, .nil => .nil
  | _, _, .cons h hs => .cons (VRel.mono hl h) (VsRel.mono hl hs)
end

mutual
theorem FRel.toV {φ : Phi} : ∀ {v v' : Value}, FRel φ.fz v v' → VRel φ v v'
  | _, _, .bool b => .bool b
  | _, _, .int k n => .int k n
  | _, _, .string s => .string s
  | _, _, .ptrN => .ptrN
  | _, _, .slcN => .slcN
  | _, _, .func f hx hy => .func f (FsRel.toV hx) (FsRel.toV hy)
  | _, _, .nilFunc => .nilFunc
  | _, _, .nilIface => .nilIface
  | _, _, .iface t h => .iface t (FRel.toV h)
  | _, _, .agg h1 h => .agg h1 (FsRel.toV h)
  | _, _, .tuple h => .tuple (FsRel.toV h)
  | _, _, .bvn => .bvs .bvn
  | _, _, .bve a c => .bvs (.bve a c)
  | _, _, .bvs hc hz hs h1 h => .bvs (.bvs hc hz hs h1 h)
  | _, _, .bvp hz hs h1 h => .bvp (.bvp hz hs h1 h)
theorem FsRel.toV {φ : Phi} : ∀ {l l' : List Value}, FsRel φ.fz l l' → VsRel φ l l'
  | _, _, .nil => .nil
  | _, _, .cons h hs => .cons (FRel.toV h) (FsRel.toV hs)
end

theorem FsRel.length {z : Nat → Option (Array Value)} : ∀ {l l' : List Value}, FsRel z l l' → l'.length = l.length
  | _, _, .nil => rfl
  | _, _, .cons _ hs => by simp [FsRel.length hs]
theorem FsRel.take {z : Nat → Option (Array Value)} : ∀ {l l' : List Value} (n : Nat), FsRel z l l' → FsRel z (l.take n) (l'.take n)
  | _, _, 0, _ => by simpa using .nil
  | _, _, n + 1, .nil => by simpa using .nil
  | _, _, n + 1, .cons hv hs => by simpa using .cons hv (FsRel.take n hs)
theorem FsRel.drop {z : Nat → Option (Array Value)} : ∀ {l l' : List Value} (n : Nat), FsRel z l l' → FsRel z (l.drop n) (l'.drop n)
  | _, _, 0, h => by simpa using h
  | _, _, n + 1, .nil => by simpa using .nil
  | _, _, n + 1, .cons hv hs => by simpa using FsRel.drop n hs
theorem FsRel.get {z : Nat → Option (Array Value)} : ∀ {l l' : List Value}, FsRel z l l' → ∀ (i : Nat) (v : Value), l[i]? = some v → ∃ v', l'[i]? = some v' ∧ FRel z v v'
  | _, _, .nil, i, v, h => by simp at h
  | _, _, .cons hv hs, 0, v, h => by simp at h; subst h; exact ⟨_, rfl, hv⟩
  | _, _, .cons hv hs, i + 1, v, h => by simp at h; simpa using FsRel.get hs i v h
theorem FsRel.of_get {z : Nat → Option (Array Value)} : ∀ {l l' : List Value}, l'.length = l.length → (∀ (i : Nat) (v : Value), l[i]? = some v → ∃ v' : Value, l'[i]? = some v' ∧ FRel z v v') → FsRel z l l'
  | [], [], _, _ => .nil
  | [], _ :: _, h, _ => by simp at h
  | _ :: _, [], h, _ => by simp at h
  | v :: l, v' :: l', h, hg => by
    obtain ⟨u, hu, hr⟩ := hg 0 v rfl
    simp at hu; subst hu
    exact .cons hr (FsRel.of_get (by simpa using h) (fun i w hw => by simpa using hg (i + 1) w (by simpa using hw)))

theorem VsRel.length {φ : Phi} : ∀ {l l' : List Value}, VsRel φ l l' → l'.length = l.length
  | _, _, .nil => rfl
  | _, _, .cons _ hs => by simp [VsRel.length hs]
theorem VsRel.get {φ : Phi} : ∀ {l l' : List Value}, VsRel φ l l' → ∀ (i : Nat) (v : Value), l[i]? = some v → ∃ v', l'[i]? = some v' ∧ VRel φ v v'
  | _, _, .nil, i, v, h => by simp at h
  | _, _, .cons hv hs, 0, v, h => by simp at h; subst h; exact ⟨_, rfl, hv⟩
  | _, _, .cons hv hs, i + 1, v, h => by simp at h; simpa using VsRel.get hs i v h
theorem VsRel.get' {φ : Phi} : ∀ {l l' : List Value}, VsRel φ l l' → ∀ (i : Nat) (v' : Value), l'[i]? = some v' → ∃ v, l[i]? = some v ∧ VRel φ v v'
  | _, _, .nil, i, v, h => by simp at h
  | _, _, .cons hv hs, 0, v, h => by simp at h; subst h; exact ⟨_, rfl, hv⟩
  | _, _, .cons hv hs, i + 1, v, h => by simp at h; simpa using VsRel.get' hs i v h
theorem VsRel.of_get {φ : Phi} : ∀ {l l' : List Value}, l'.length = l.length → (∀ (i : Nat) (v : Value), l[i]? = some v → ∃ v' : Value, l'[i]? = some v' ∧ VRel φ v v') → VsRel φ l l'
  | [], [], _, _ => .nil
  | [], _ :: _, h, _ => by simp at h
  | _ :: _, [], h, _ => by simp at h
  | v :: l, v' :: l', h, hg => by
    obtain ⟨u, hu, hr⟩ := hg 0 v rfl
    simp at hu; subst hu
    exact .cons hr (VsRel.of_get (by simpa using h) (fun i w hw => by simpa using hg (i + 1) w (by simpa using hw)))
theorem VsRel.append {φ : Phi} : ∀ {l l' m m' : List Value}, VsRel φ l l' → VsRel φ m m' → VsRel φ (l ++ m) (l' ++ m')
  | _, _, _, _, .nil, h => h
  | _, _, _, _, .cons hv hs, h => .cons hv (VsRel.append hs h)
theorem VsRel.take {φ : Phi} : ∀ {l l' : List Value} (n : Nat), VsRel φ l l' → VsRel φ (l.take n) (l'.take n)
  | _, _, 0, _ => by simpa using .nil
  | _, _, n + 1, .nil => by simpa using .nil
  | _, _, n + 1, .cons hv hs => by simpa using .cons hv (VsRel.take n hs)
theorem VsRel.drop {φ : Phi} : ∀ {l l' : List Value} (n : Nat), VsRel φ l l' → VsRel φ (l.drop n) (l'.drop n)
  | _, _, 0, h => by simpa using h
  | _, _, n + 1, .nil => by simpa using .nil
  | _, _, n + 1, .cons hv hs => by simpa using VsRel.drop n hs
theorem VsRel.setAt {φ : Phi} {l l' cs cs' : List Value} (off : Nat) (h : VsRel φ l l') (hc : VsRel φ cs cs') : VsRel φ (setAt l off cs) (setAt l' off cs') := by
  unfold Bx.setAt
  rw [hc.length]
  exact (h.take off).append (hc.append (h.drop _))
theorem setAt_length {l cs : List Value} {off : Nat} (h : off + cs.length ≤ l.length) : (setAt l off cs).length = l.length := by
  unfold setAt; simp; omega

theorem VRel.one {φ : Phi} {v v' : Value} (h : VRel φ v v') (h1 : v.one1 = true) : v'.oneCell' = true := by
  cases h <;> first | rfl | (cases h1; done) | (rename_i h; cases h <;> rfl)
theorem VsRel.one {φ : Phi} {l l' : List Value} (h : VsRel φ l l') (h1 : ∀ v ∈ l, v.one1 = true) : ∀ v ∈ l', v.oneCell' = true := by
  intro v hv
  obtain ⟨i, hi⟩ := List.mem_iff_getElem?.1 hv
  obtain ⟨u, hu, hr⟩ := h.get' i v hi
  exact hr.one (h1 u (List.mem_of_getElem? hu))
theorem VRel.cells {φ : Phi} {v v' : Value} (h : VRel φ v v') (hst : Bx.storable v = true) : VsRel φ v.cells.toList v'.cells.toList := by
  cases h <;> first
    | (cases hst; done)
    | (rename_i h1 h2; exact h2)
    | (rename_i h; simp only [Value.cells]; exact .cons (.ptr h) .nil)
    | (rename_i h1 h2 h3; simp only [Value.cells]; exact .cons (.slc h1 h2 h3) .nil)
    | (rename_i h; simp only [Value.cells]; exact .cons (.iface _ h) .nil)
    | (rename_i h; simp only [Value.cells]; exact .cons (.tuple h) .nil)
    | (rename_i h h'; simp only [Value.cells]; exact .cons (.func _ h h') .nil)
    | (rename_i h; have h0 := h; cases h <;> (simp only [Value.cells]; first | exact .cons (.bvs h0) .nil | exact .cons (.bvp h0) .nil))
    | (simp only [Value.cells]; exact .cons (by constructor) .nil)
theorem cells_one {v : Value} (hs : storable v = true) (ha : ∀ xs, v = .agg xs → ∀ x ∈ xs.toList, x.one1 = true) : ∀ x ∈ v.cells.toList, x.one1 = true := by
  cases v <;> simp_all [Value.cells, Value.one1, storable]
theorem VRel.agg_one {φ : Phi} {v v' : Value} (h : VRel φ v v') : ∀ xs, v = .agg xs → ∀ x ∈ xs.toList, x.one1 = true := by
  intro xs e
  subst e
  cases h with
  | agg h1 h => exact h1

/-! ### The heap -/

structure R (P : Program) (φ : Phi) (σ : AHeap) (w : World) : Prop where
  bnd : ∀ i, σ.size ≤ i → φ i = .absent
  dead : ∀ i p, φ i = .dead p → σ.get i = none
  live : ∀ i b o k, φ i = .live b o k → ∃ obj c e fr, σ.get i = some obj ∧ w.heap[b]? = some (.cells c e fr) ∧
    (∀ (j : Nat) (v : Value), obj.cells[j]? = some v → v.one1 = true ∧ ∃ v' : Value, c[o + j]? = some v' ∧ VRel φ v v') ∧
    (obj.own = true → o = 0 ∧ fr = (0, 0) ∧ e = obj.elem ∧ (∀ n, k = some n → c.size = n * P.cellsOf e))
  excl : ∀ i j b o k b' o' k' obj, φ i = .live b o k → φ j = .live b' o' k' → σ.get i = some obj → obj.own = true → i ≠ j → b ≠ b'
  froz : ∀ b c, φ.fz b = some c → ∃ e fr, w.heap[b]? = some (.cells c e fr)
  nofz : ∀ i b o k obj, φ i = .live b o k → σ.get i = some obj → obj.own = true → φ.fz b = none

def Owned (φ : Phi) (σ : AHeap) (b : Nat) : Prop := ∃ i o k obj, φ i = .live b o k ∧ σ.get i = some obj ∧ obj.own = true

structure Post (P : Program) (φ : Phi) (σ : AHeap) (w : World) (φ' : Phi) (σ' : AHeap) (w' : World) : Prop where
  size : σ.size ≤ σ'.size
  le : Le φ φ'
  abs : ∀ i, i < σ.size → φ i = .absent → φ' i = .absent ∧ σ'.get i = σ.get i
  rel : R P φ' σ' w'
  own : ∀ b, Owned φ' σ' b → Owned φ σ b ∨ w.heap.size ≤ b
  new : ∀ i b o k, φ i = .absent → φ' i = .live b o k → Owned φ σ b ∨ w.heap.size ≤ b
  keep : ∀ b, b < w.heap.size → ¬ Owned φ σ b → w'.heap[b]? = w.heap[b]?
  grow : w.heap.size ≤ w'.heap.size
  env : w'.os = w.os ∧ w'.output = w.output ∧ w'.tape = w.tape
  fz : ∀ b c, φ'.fz b = some c → φ.fz b = some c ∨ Owned φ σ b ∨ w.heap.size ≤ b

variable {P : Program}

theorem Post.refl {φ : Phi} {σ : AHeap} {w : World} (h : R P φ σ w) : Post P φ σ w φ σ w :=
  ⟨Nat.le_refl _, Le.refl _, fun _ _ h => ⟨h, rfl⟩, h, fun _ h => .inl h, fun i b o k h1 h2 => by (rw [h1] at h2; cases h2), fun _ _ _ => rfl, Nat.le_refl _, ⟨rfl, rfl, rfl⟩, fun _ _ h => .inl h⟩

theorem Post.trans {φ φ1 φ2 : Phi} {σ σ1 σ2 : AHeap} {w w1 w2 : World} (h : Post P φ σ w φ1 σ1 w1) (h' : Post P φ1 σ1 w1 φ2 σ2 w2) : Post P φ σ w φ2 σ2 w2 where
  size := Nat.le_trans h.size h'.size
  le := h.le.trans h'.le
  abs i hi ha := by
    obtain ⟨h1, h2⟩ := h.abs i hi ha
    obtain ⟨h3, h4⟩ := h'.abs i (Nat.lt_of_lt_of_le hi h.size) h1
    exact ⟨h3, h4.trans h2⟩
  rel := h'.rel
  own b hb := by
    rcases h'.own b hb with hb | hb
    · exact h.own b hb
    · exact .inr (Nat.le_trans h.grow hb)
  new i b o k h1 h2 := by
    have ownB : Owned φ1 σ1 b ∨ w1.heap.size ≤ b → Owned φ σ b ∨ w.heap.size ≤ b := by
      intro hb
      rcases hb with hb | hb
      · exact h.own b hb
      · exact .inr (Nat.le_trans h.grow hb)
    cases h3 : φ1 i with
    | absent => exact ownB (h'.new i b o k h3 h2)
    | dead p =>
      rcases h'.le i (by simp [h3]) with e | ⟨e, _⟩ <;> rw [h2] at e
      · rw [h3] at e; cases e
      · cases e
    | live b1 o1 k1 =>
      rcases h'.le i (by simp [h3]) with e | ⟨e, _⟩ <;> rw [h2] at e
      · rw [h3] at e
        injection e with e1 e2 e3
        subst e1
        exact h.new i b o1 k1 h1 h3
      · cases e
  keep b hb hn := by
    rw [h'.keep b (Nat.lt_of_lt_of_le hb h.grow) ?_, h.keep b hb hn]
    intro ho
    rcases h.own b ho with ho | ho
    · exact hn ho
    · omega
  grow := Nat.le_trans h.grow h'.grow
  env := ⟨h'.env.1.trans h.env.1, h'.env.2.1.trans h.env.2.1, h'.env.2.2.trans h.env.2.2⟩
  fz b c hb := by
    rcases h'.fz b c hb with h1 | h1 | h1
    · exact h.fz b c h1
    · exact .inr (h.own b h1)
    · exact .inr (.inr (Nat.le_trans h.grow h1))

theorem R.drew {φ : Phi} {σ : AHeap} {w : World} (h : R P φ σ w) : R P φ σ w.drew := ⟨h.bnd, h.dead, h.live, h.excl, h.froz, h.nofz⟩
theorem Post.drew {φ : Phi} {σ : AHeap} {w : World} (h : R P φ σ w) : Post P φ σ w φ σ w.drew :=
  ⟨Nat.le_refl _, Le.refl _, fun _ _ h => ⟨h, rfl⟩, h.drew, fun _ h => .inl h, fun i b o k h1 h2 => by (rw [h1] at h2; cases h2), fun _ _ _ => rfl, Nat.le_refl _, ⟨rfl, rfl, rfl⟩, fun _ _ h => .inl h⟩

theorem add_eq (b o n : Nat) : (⟨b, o, none⟩ : Addr).add n = ⟨b, o + n, none⟩ := by
  unfold Addr.add; split <;> simp_all

theorem R.blk_lt {φ : Phi} {σ : AHeap} {w : World} (h : R P φ σ w) {i b o : Nat} {k : Option Nat} (hi : φ i = .live b o k) : b < w.heap.size := by
  obtain ⟨obj, c, e, fr, _, hc, _⟩ := h.live i b o k hi
  exact (Array.getElem?_eq_some_iff.1 hc).1
theorem R.id_lt {φ : Phi} {σ : AHeap} {w : World} (h : R P φ σ w) {i : Nat} (hi : φ i ≠ .absent) : i < σ.size := by
  rcases Nat.lt_or_ge i σ.size with h' | h'
  · exact h'
  · exact absurd (h.bnd i h') hi

theorem R.cell {φ : Phi} {σ : AHeap} {w : World} (h : R P φ σ w) {a a' : Addr} (ha : ARel φ a a') {v : Value} (hv : σ.cell a = some v) :
    ∃ v', w.cell? a' = some v' ∧ VRel φ v v' ∧ v.one1 = true := by
  unfold ARel at ha
  unfold AHeap.cell at hv
  cases hs : φ a.block with
  | absent => simp [hs] at ha
  | dead p => simp [h.dead _ _ hs] at hv
  | live b o k =>
    simp only [hs] at ha
    obtain ⟨obj, c, e, fr, hg, hc, hcells, _⟩ := h.live _ _ _ _ hs
    simp only [hg] at hv
    obtain ⟨h1, v', hv', hr⟩ := hcells _ _ hv
    exact ⟨v', by subst ha; simp [World.cell?, hc, hv'], hr, h1⟩

theorem cells_spec {σ : AHeap} {a : Addr} {n : Nat} {cs : List Value} (h : σ.cells a n = some cs) :
    ∃ obj, σ.get a.block = some obj ∧ a.off + n ≤ obj.cells.length ∧ cs = (obj.cells.drop a.off).take n := by
  unfold AHeap.cells at h
  cases hg : σ.get a.block with
  | none => simp [hg] at h
  | some obj =>
    simp only [hg] at h
    cases hb : Nat.ble (a.off + n) obj.cells.length with
    | false => simp [hb] at h
    | true => simp [hb] at h; exact ⟨obj, rfl, Nat.le_of_ble_eq_true hb, h.symm⟩

theorem R.cells {φ : Phi} {σ : AHeap} {w : World} (h : R P φ σ w) {a a' : Addr} {n : Nat} (ha : ARel φ a a') {cs : List Value} (hv : σ.cells a n = some cs) :
    ∃ cs', VsRel φ cs cs' ∧ cs.length = n ∧ (∀ v ∈ cs, v.one1 = true) ∧ (∀ (j : Nat) (v : Value), cs'[j]? = some v → w.cell? (a'.add j) = some v) := by
  obtain ⟨obj, hg, hle, rfl⟩ := cells_spec hv
  unfold ARel at ha
  cases hs : φ a.block with
  | absent => simp [hs] at ha
  | dead p => simp [h.dead _ _ hs] at hg
  | live b o k =>
    simp only [hs] at ha
    subst ha
    obtain ⟨obj', c, e, fr, hg', hc, hcells, _⟩ := h.live _ _ _ _ hs
    obtain rfl : obj = obj' := Option.some.inj (hg.symm.trans hg')
    have hlen : ((obj.cells.drop a.off).take n).length = n := by simp; omega
    refine ⟨(c.toList.drop (o + a.off)).take n, ?_, hlen, ?_, ?_⟩
    · have key : ∀ (i : Nat) (v : Value), ((obj.cells.drop a.off).take n)[i]? = some v → ∃ v' : Value, ((c.toList.drop (o + a.off)).take n)[i]? = some v' ∧ VRel φ v v' := by
        intro i v hi
        have hin : i < n := by have := (List.getElem?_eq_some_iff.1 hi).1; omega
        rw [List.getElem?_take_of_lt hin, List.getElem?_drop] at hi
        obtain ⟨_, v', hv', hr⟩ := hcells _ _ hi
        refine ⟨v', ?_, hr⟩
        rw [List.getElem?_take_of_lt hin, List.getElem?_drop]
        rw [← Array.getElem?_toList] at hv'
        rw [← hv']
        congr 1
        omega
      refine VsRel.of_get ?_ key
      rw [hlen]
      rcases Nat.eq_zero_or_pos n with rfl | hp
      · simp
      · obtain ⟨v', hv', _⟩ := key (n - 1) _ (List.getElem?_eq_getElem (by omega))
        have h1 := (List.getElem?_eq_some_iff.1 hv').1
        simp at h1 ⊢; omega
    · intro v hv
      obtain ⟨i, hi⟩ := List.mem_iff_getElem?.1 hv
      have hin : i < n := by have := (List.getElem?_eq_some_iff.1 hi).1; omega
      rw [List.getElem?_take_of_lt hin, List.getElem?_drop] at hi
      exact (hcells _ _ hi).1
    · intro j v hj
      have hin : j < n := by
        have := (List.getElem?_eq_some_iff.1 hj).1
        simp at this; omega
      rw [List.getElem?_take_of_lt hin, List.getElem?_drop] at hj
      rw [add_eq]
      simp only [World.cell?, hc, Option.isSome_none, Bool.false_eq_true, if_false]
      rw [← Array.getElem?_toList, ← hj]

def Phi.set (φ : Phi) (i : Nat) (s : St) : Phi := ⟨fun j => if j = i then s else φ j, φ.fz⟩

/-- A new block. -/
theorem R.push {φ : Phi} {σ : AHeap} {w : World} (h : R P φ σ w) {cs cs' : List Value} (hr : VsRel φ cs cs') (h1 : ∀ v ∈ cs, v.one1 = true) (e : TypeId) (c : Array Value)
    (hc : ∀ (j : Nat) (v : Value), cs'[j]? = some v → c[j]? = some v) (k : Option Nat) (hk : ∀ n, k = some n → c.size = n * P.cellsOf e) :
    Post P φ σ w (φ.set σ.size (.live w.heap.size 0 k)) (σ.push ⟨cs, e, true⟩) (w.alloc (.cells c e)) := by
  have hab : φ σ.size = .absent := h.bnd _ (Nat.le_refl _)
  have hle : Le φ (φ.set σ.size (.live w.heap.size 0 k)) := by
    refine ⟨fun i hi => ?_, FLe.refl _⟩
    have : i ≠ σ.size := fun e => hi (e ▸ hab)
    exact .inl (by simp [Phi.set, this])
  have hfzlt : ∀ b c, φ.fz b = some c → b < w.heap.size := fun b c hb => by
    obtain ⟨e, fr, he⟩ := h.froz b c hb
    exact (Array.getElem?_eq_some_iff.1 he).1
  have hold : ∀ b, b < w.heap.size → (w.alloc (.cells c e)).heap[b]? = w.heap[b]? := fun b hb => heap_alloc_old w _ b hb
  refine ⟨by rw [AHeap.size_push]; omega, hle, ?_, ?_, ?_, ?_, fun b hb _ => hold b hb, by simp, ?_, fun _ _ h => .inl h⟩
  · intro i hi ha
    have : i ≠ σ.size := by omega
    exact ⟨by simp [Phi.set, this, ha], by simp [AHeap.get_push, this]⟩
  · refine ⟨?_, ?_, ?_, ?_, fun b c hb => ?_, ?_⟩
    rotate_left 4
    · obtain ⟨e', fr, he⟩ := h.froz b c hb
      exact ⟨e', fr, by rw [hold b (hfzlt b c hb)]; exact he⟩
    · intro i b o k' obj hi hg ho
      by_cases hs : i = σ.size
      · subst hs
        simp only [Phi.set, if_true, St.live.injEq] at hi
        obtain ⟨rfl, rfl, rfl⟩ := hi
        cases hz : φ.fz w.heap.size with
        | none => simp [Phi.set, hz]
        | some c => exact absurd (hfzlt _ c hz) (Nat.lt_irrefl _)
      · simp only [Phi.set, hs, if_false] at hi
        simp only [AHeap.get_push, hs, if_false] at hg
        exact h.nofz i b o k' obj hi hg ho
    · intro i hi
      rw [AHeap.size_push] at hi
      have : i ≠ σ.size := by omega
      simp only [Phi.set, this, if_false]
      exact h.bnd i (by omega)
    · intro i p hi
      by_cases hs : i = σ.size
      · subst hs; simp [Phi.set] at hi
      · simp only [Phi.set, hs, if_false] at hi
        simp [AHeap.get_push, hs, h.dead i p hi]
    · intro i b o k' hi
      by_cases hs : i = σ.size
      · subst hs
        simp only [Phi.set, if_true, St.live.injEq] at hi
        obtain ⟨rfl, rfl, rfl⟩ := hi
        refine ⟨⟨cs, e, true⟩, c, e, (0, 0), by simp [AHeap.get_push], heap_alloc_new w _, ?_, fun _ => ⟨rfl, rfl, rfl, hk⟩⟩
        intro j v hj
        refine ⟨h1 v (List.mem_of_getElem? hj), ?_⟩
        obtain ⟨v', hv', hrel⟩ := hr.get j v hj
        exact ⟨v', by rw [Nat.zero_add]; exact hc j v' hv', hrel.mono hle⟩
      · simp only [Phi.set, hs, if_false] at hi
        obtain ⟨obj, c', e', fr, hg, hb, hcells, hown⟩ := h.live i b o k' hi
        refine ⟨obj, c', e', fr, by simp [AHeap.get_push, hs, hg], by rw [hold b (h.blk_lt hi)]; exact hb, ?_, hown⟩
        intro j v hj
        obtain ⟨ho, v', hv', hrel⟩ := hcells j v hj
        exact ⟨ho, v', hv', hrel.mono hle⟩
    · intro i j b o k' b' o' k'' obj hi hj hg ho hne
      by_cases hs : i = σ.size
      · subst hs
        simp only [Phi.set, if_true, St.live.injEq] at hi
        obtain ⟨rfl, rfl, rfl⟩ := hi
        have : j ≠ σ.size := fun e => hne e.symm
        simp only [Phi.set, this, if_false] at hj
        have := h.blk_lt hj
        omega
      · simp only [Phi.set, hs, if_false] at hi
        by_cases hs' : j = σ.size
        · subst hs'
          simp only [Phi.set, if_true, St.live.injEq] at hj
          obtain ⟨rfl, rfl, rfl⟩ := hj
          have := h.blk_lt hi
          omega
        · simp only [Phi.set, hs', if_false] at hj
          simp only [AHeap.get_push, hs, if_false] at hg
          exact h.excl i j b o k' b' o' k'' obj hi hj hg ho hne
  · rintro b ⟨i, o, k', obj, hi, hg, ho⟩
    by_cases hs : i = σ.size
    · subst hs
      simp only [Phi.set, if_true, St.live.injEq] at hi
      exact .inr (by omega)
    · simp only [Phi.set, hs, if_false] at hi
      simp only [AHeap.get_push, hs, if_false] at hg
      exact .inl ⟨i, o, k', obj, hi, hg, ho⟩
  · intro i b o k' h1' h2'
    by_cases hs : i = σ.size
    · subst hs
      simp only [Phi.set, if_true, St.live.injEq] at h2'
      exact .inr (by omega)
    · simp only [Phi.set, hs, if_false] at h2'
      rw [h1'] at h2'; cases h2'
  · exact ⟨rfl, rfl, rfl⟩

theorem setRow_get (w : World) (g : Nat) (cs : Array Value) (b : Nat) (h : b ≠ g) : (w.setRow g cs).heap[b]? = w.heap[b]? := by
  simp only [World.setRow, Array.getElem?_modify]
  rw [if_neg (Ne.symm h)]

/-- The cells of an owned block are written. -/
theorem R.put {φ : Phi} {σ : AHeap} {w : World} (h : R P φ σ w) {i b o : Nat} {k : Option Nat} {obj : AObj} (hi : φ i = .live b o k) (hg : σ.get i = some obj) (hown : obj.own = true)
    {cs : List Value} {cs' : Array Value} (hr : ∀ (j : Nat) (v : Value), cs[j]? = some v → ∃ v' : Value, cs'[j]? = some v' ∧ VRel φ v v') (h1 : ∀ v ∈ cs, v.one1 = true) {c : Array Value} {e : TypeId} {fr : Nat × Nat}
    (hb : w.heap[b]? = some (.cells c e fr)) (hsz : cs'.size = c.size) :
    Post P φ σ w φ (σ.put i ⟨cs, obj.elem, true⟩) (w.setRow b cs') := by
  obtain ⟨obj', c', e', fr', hg', hb', hcells, hall⟩ := h.live i b o k hi
  obtain rfl : obj = obj' := Option.some.inj (hg.symm.trans hg')
  rw [hb] at hb'
  obtain ⟨rfl, rfl, rfl⟩ : c = c' ∧ e = e' ∧ fr = fr' := by
    have := Option.some.inj hb'
    injection this with h1 h2 h3
    exact ⟨h1, h2, h3⟩
  obtain ⟨ho, hfr, he, hk⟩ := hall hown
  subst hfr
  have hother : ∀ j b' o' k', φ j = .live b' o' k' → j ≠ i → b' ≠ b := fun j b' o' k' hj hne => Ne.symm (h.excl i j b o k b' o' k' obj hi hj hg hown (Ne.symm hne))
  have hnz : φ.fz b = none := h.nofz i b o k obj hi hg hown
  refine ⟨Nat.le_refl _, Le.refl _, ?_, ?_, ?_, fun i b o k h1 h2 => by (rw [h1] at h2; cases h2), ?_, by simp, ⟨rfl, rfl, rfl⟩, fun _ _ h => .inl h⟩
  · intro j hj ha
    have : j ≠ i := fun e => by rw [e, hi] at ha; cases ha
    exact ⟨ha, by simp [AHeap.get_put, this]⟩
  · refine ⟨fun j hj => h.bnd j hj, ?_, ?_, ?_, ?_, ?_⟩
    rotate_left 3
    · intro b' c' hb'
      have : b' ≠ b := fun e => by rw [e, hnz] at hb'; cases hb'
      rw [setRow_get w b cs' b' this]
      exact h.froz b' c' hb'
    · intro j b' o' k' ob hj hgj hoj
      by_cases hji : j = i
      · subst hji
        rw [hi] at hj
        injection hj with h1 h2 h3
        subst h1; exact hnz
      · simp only [AHeap.get_put, hji, if_false] at hgj
        exact h.nofz j b' o' k' ob hj hgj hoj
    · intro j p hj
      have : j ≠ i := fun e => by rw [e, hi] at hj; cases hj
      simp [AHeap.get_put, this, h.dead j p hj]
    · intro j b' o' k' hj
      by_cases hji : j = i
      · subst hji
        rw [hi] at hj
        obtain ⟨rfl, rfl, rfl⟩ : b = b' ∧ o = o' ∧ k = k' := by injection hj with h1 h2 h3; exact ⟨h1, h2, h3⟩
        refine ⟨⟨cs, obj.elem, true⟩, cs', e, (0, 0), by simp [AHeap.get_put], setRow_heap w b c cs' e (0, 0) hb, ?_, fun _ => ⟨ho, rfl, he, ?_⟩⟩
        · intro j' v hj'
          refine ⟨h1 v (List.mem_of_getElem? hj'), ?_⟩
          subst ho
          rw [Nat.zero_add]
          exact hr j' v hj'
        · rw [hsz]; exact hk
      · obtain ⟨obj2, c2, e2, fr2, hg2, hb2, hcells2, hall2⟩ := h.live j b' o' k' hj
        exact ⟨obj2, c2, e2, fr2, by simp [AHeap.get_put, hji, hg2], by rw [setRow_get w b cs' b' (hother j b' o' k' hj hji)]; exact hb2, hcells2, hall2⟩
    · intro j l b1 o1 k1 b2 o2 k2 ob hj hl hgj hoj hne
      by_cases hji : j = i
      · subst hji; exact h.excl j l b1 o1 k1 b2 o2 k2 obj hj hl hg hown hne
      · simp only [AHeap.get_put, hji, if_false] at hgj
        exact h.excl j l b1 o1 k1 b2 o2 k2 ob hj hl hgj hoj hne
  · rintro b' ⟨j, o', k', ob, hj, hgj, hoj⟩
    by_cases hji : j = i
    · subst hji; exact .inl ⟨j, o', k', obj, hj, hg, hown⟩
    · simp only [AHeap.get_put, hji, if_false] at hgj
      exact .inl ⟨j, o', k', ob, hj, hgj, hoj⟩
  · intro b' hb' hn
    have : b' ≠ b := fun e => hn (e ▸ ⟨i, o, k, obj, hi, hg, hown⟩)
    exact setRow_get w b cs' b' this

/-- A block is forgotten. -/
theorem R.kill {φ : Phi} {σ : AHeap} {w : World} (h : R P φ σ w) {i b o : Nat} {k : Option Nat} (hi : φ i = .live b o k) : Post P φ σ w (φ.set i (.dead none)) (σ.kill i) w := by
  have hle : Le φ (φ.set i (.dead none)) := by
    refine ⟨fun j _ => ?_, FLe.refl _⟩
    by_cases hj : j = i
    · exact .inr ⟨by simp [Phi.set, hj], fun x => by rw [hj, hi]; simp⟩
    · exact .inl (by simp [Phi.set, hj])
  have hil : i < σ.size := h.id_lt (by rw [hi]; simp)
  refine ⟨Nat.le_refl _, hle, ?_, ?_, ?_, ?_, fun _ _ _ => rfl, Nat.le_refl _, ⟨rfl, rfl, rfl⟩, fun _ _ h => .inl h⟩
  · intro j hj ha
    have : j ≠ i := fun e => by rw [e, hi] at ha; cases ha
    exact ⟨by simp [Phi.set, this, ha], by simp [AHeap.get_kill, this]⟩
  · refine ⟨?_, ?_, ?_, ?_, h.froz, ?_⟩
    rotate_left 4
    · intro j b' o' k' ob hj hgj hoj
      have hji : j ≠ i := fun e => by rw [e] at hj; simp [Phi.set] at hj
      simp only [Phi.set, hji, if_false] at hj
      simp only [AHeap.get_kill, hji, if_false] at hgj
      exact h.nofz j b' o' k' ob hj hgj hoj
    · intro j hj
      rw [AHeap.size_kill] at hj
      have : j ≠ i := by omega
      simp only [Phi.set, this, if_false]
      exact h.bnd j hj
    · intro j p hj
      by_cases hji : j = i
      · subst hji; simp [AHeap.get_kill]
      · simp only [Phi.set, hji, if_false] at hj
        simp [AHeap.get_kill, hji, h.dead j p hj]
    · intro j b' o' k' hj
      have hji : j ≠ i := fun e => by rw [e] at hj; simp [Phi.set] at hj
      simp only [Phi.set, hji, if_false] at hj
      obtain ⟨obj, c, e, fr, hg, hb, hcells, hall⟩ := h.live j b' o' k' hj
      refine ⟨obj, c, e, fr, by simp [AHeap.get_kill, hji, hg], hb, ?_, hall⟩
      intro l v hl
      obtain ⟨ho, v', hv', hrel⟩ := hcells l v hl
      exact ⟨ho, v', hv', hrel.mono hle⟩
    · intro j l b1 o1 k1 b2 o2 k2 ob hj hl hgj hoj hne
      have hji : j ≠ i := fun e => by rw [e] at hj; simp [Phi.set] at hj
      have hli : l ≠ i := fun e => by rw [e] at hl; simp [Phi.set] at hl
      simp only [Phi.set, hji, hli, if_false] at hj hl
      simp only [AHeap.get_kill, hji, if_false] at hgj
      exact h.excl j l b1 o1 k1 b2 o2 k2 ob hj hl hgj hoj hne
  · rintro b' ⟨j, o', k', ob, hj, hgj, hoj⟩
    have hji : j ≠ i := fun e => by rw [e] at hj; simp [Phi.set] at hj
    simp only [Phi.set, hji, if_false] at hj
    simp only [AHeap.get_kill, hji, if_false] at hgj
    exact .inl ⟨j, o', k', ob, hj, hgj, hoj⟩

  · intro j b' o' k' h1' h2'
    by_cases hji : j = i
    · subst hji; rw [hi] at h1'; cases h1'
    · simp only [Phi.set, hji, if_false] at h2'
      rw [h1'] at h2'; cases h2'

end Go.Bx

