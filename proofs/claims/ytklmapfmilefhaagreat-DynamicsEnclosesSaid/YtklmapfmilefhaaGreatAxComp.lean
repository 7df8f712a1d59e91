/-
  AX, PART 2: from the model's code to the interpreter's code.
-/
import Derived.Test.YtklmapfmilefhaaGreatAxDefs
set_option linter.unusedSimpArgs false
set_option linter.unusedVariables false
set_option linter.unusedSectionVars false
namespace Go.Ax

/-- A constant without addresses. -/
def closedV : Value → Bool
  | .bool _ | .int _ _ | .string _ | .pointer none | .nilFunc | .nilIface => true
  | .slice none l c => Nat.beq l 0 && Nat.beq c 0
  | .agg cs => cs.toList.all fun v => match v with
    | .bool _ | .int _ _ | .string _ | .pointer none | .nilFunc | .nilIface => true
    | .slice none l c => Nat.beq l 0 && Nat.beq c 0
    | _ => false
  | _ => false

def okOpd : Operand → Bool
  | .tmp _ => true
  | .const v => closedV v
  | .global _ => false
  | .func _ => true

def sizeT (P : Program) (t : TypeId) : Option Nat := (P.info? t).map (·.size)

def flatFs (flat : TypeId → Option (List CK)) : List Field → Nat → Option (List CK)
  | [], _ => some []
  | f :: fs, off =>
    match flat f.type with
    | some ks => if f.name ≠ "_" ∧ f.offset = off then (match flatFs flat fs (off + ks.length) with | some r => some (ks ++ r) | none => none) else none
    | none => none

/-- The kinds of the cells of a type whose values are integers, Booleans, strings, and structs and arrays of these. -/
def flatT (P : Program) : Nat → TypeId → Option (List CK)
  | 0, _ => none
  | d + 1, t =>
    match P.underlying t, sizeT P t with
    | some (.int _), some 1 => some [.int]
    | some .bool, some 1 => some [.bool]
    | some .string, some 1 => some [.str]
    | some (.struct fs), some n => (match flatFs (flatT P d) fs.toList 0 with
      | some ks => if P.stoodInHeld t = false ∧ ks.length = n then some ks else none
      | none => none)
    | some (.array l e), some n => (match flatT P d e with
      | some ks => if l * ks.length = n ∧ sizeT P e = some ks.length then some (List.replicate l ks).flatten else none
      | none => none)
    | _, _ => none

def flatB (P : Program) (t : TypeId) : Option (List CK) := if P.eqGuardType P.depth t = false then flatT P 20 t else none

def eqKind (P : Program) (t : TypeId) : EK :=
  match P.underlying t with
  | some .bool => .bool
  | some (.pointer _) => .ptr
  | some (.slice _) => .slice
  | some (.func _ _ _) => .func
  | some (.interface _) => .iface
  | some (.struct _) | some (.array _ _) => (match flatB P t with | some ks => .flat ks | none => .no)
  | _ => .no

def oneOrAgg (P : Program) (t : TypeId) : Option (Option Nat) :=
  match P.underlying t, P.info? t with
  | some (.struct _), some i | some (.array _ _), some i => some (some i.size)
  | some _, some _ => some none
  | _, _ => none

/-- The zero cells of a type. -/
def zeroOf (P : Program) (t : TypeId) : Option (List Value) :=
  match P.info? t with
  | some i => (match i.zero with
    | some z => if closedV z && storable z then some z.cells.toList else none
    | none => none)
  | none => none

def places (P : Program) (fs : Array Field) : Nat → Option (Nat × Nat) := fun i =>
  match fs[i]? with
  | some f => (sizeT P f.type).map fun s => (f.offset, s)
  | none => none

def partsWith (place : Nat → Option (Nat × Nat)) : List (Nat × Operand) → Option (List (Nat × Nat × Operand))
  | [] => some []
  | (i, x) :: rest =>
    match place i, partsWith place rest with
    | some (off, s), some r => some ((off, s, x) :: r)
    | _, _ => none

def methodTab (P : Program) (name : String) : List (TypeId × FuncId × RecvMode) :=
  (List.range P.types.size).filterMap fun t =>
    match P.info? t with
    | some i => (match i.methods.find? (·.name == name) with
      | some m => if m.path.isEmpty then (match m.func with
          | some (f, true) => (match P.underlying t with | some (.pointer _) => some (t, f, .direct) | _ => none)
          | some (f, false) => (match P.underlying t with
            | some (.pointer e) => (match oneOrAgg P e with | some sz => some (t, f, .deref sz) | none => none)
            | some _ => some (t, f, .direct)
            | none => none)
          | none => none) else none
      | none => none)
    | none => none

def compOp (P : Program) (op : Op) : Option AOp :=
  match op with
  | .move x | .assign x => some (.mv x)
  | .pick c a b => some (.pick c a b)
  | .alloc e => (zeroOf P e).map fun z => .alloc e z
  | .box e x => some (.box e x)
  | .build t parts => do
    let z ← zeroOf P t
    match P.underlying t with
    | some (.struct fs) => if fs.toList.all (fun f => (sizeT P f.type).isSome) then do some (.build z (← partsWith (places P fs) parts.toList)) else none
    | some (.array _ e) => do
      let s ← sizeT P e
      some (.build z (← partsWith (fun i => some (i * s, s)) parts.toList))
    | _ => none
  | .buildSlice t len parts =>
    match P.underlying t with
    | some (.slice e) => do
      let s ← sizeT P e
      let z ← zeroOf P e
      if len * s ≤ 2 ^ 24 ∧ z.length = s then some (.buildSlice e ((List.replicate len z).flatten) len (← partsWith (fun i => some (i * s, s)) parts.toList)) else none
    | _ => none
  | .load t x => (oneOrAgg P t).map fun s => .load s x
  | .store t x v => (sizeT P t).map fun s => .store s x v
  | .nilCheck x => some (.nilCheck x)
  | .binOp op t x y _ => some (.bin op (eqKind P t) x y)
  | .unOp op _ x => some (.un op x)
  | .convert src dst x =>
    match P.underlying src, P.underlying dst with
    | some (.int _), some (.int k) => some (.conv k x)
    | some .string, some .string => some (.strMv x)
    | _, _ => none
  | .makeInterface t x => match P.underlying t with
    | some (.interface _) => none
    | some _ => some (.mkI t x)
    | none => none
  | .makeFunc (.func f) first captured => some (.mkF f first.toList captured.toList)
  | .makeSlice t l c =>
    match P.underlying t with
    | some (.slice e) => do
      let i ← P.info? e
      let z ← zeroOf P e
      if z.length = i.size then some (.makeSlice e z i.bytes l c) else none
    | _ => none
  | .slice t x lo hi none =>
    match P.underlying t with
    | some .string => some (.slcS x lo hi)
    | some (.slice e) => do some (.slc (← sizeT P e) x lo hi)
    | some (.array n e) => do some (.slcA n (← sizeT P e) x lo hi)
    | _ => none
  | .fieldAddr t x f =>
    match P.underlying t with
    | some (.struct fs) => (match fs[f]? with
      | some fl => (match sizeT P fl.type with
        | some s => if s = 0 then none else some (.fieldAddr fl.offset x)
        | none => none)
      | none => none)
    | _ => none
  | .field t x f =>
    match P.underlying t with
    | some (.struct fs) => (match fs[f]? with
      | some fl => (oneOrAgg P fl.type).map fun s => .field fl.offset s x
      | none => none)
    | _ => none
  | .indexAddr t x i =>
    match P.underlying t with
    | some (.slice e) => (sizeT P e).map fun s => .idxAddr none s x i
    | some (.array n e) => (sizeT P e).map fun s => .idxAddr (some n) s x i
    | _ => none
  | .index t x i =>
    match P.underlying t with
    | some .string => some (.idxS x i)
    | some (.array n e) => do some (.idx n (← sizeT P e) (← oneOrAgg P e) x i)
    | _ => none
  | .typeAssert x _ t ok =>
    match P.underlying t, P.info? t with
    | some (.interface _), _ => none
    | some _, some i => (match i.zero with | some z => if closedV z then some (.tassert x t z ok) else none | none => none)
    | _, _ => none
  | .extract x i => some (.ext x i)
  | .call c =>
    match c.callee with
    | .value f => some (.call f c.args.toList)
    | .invoke r name => some (.invoke (methodTab P name) r c.args.toList)
    | .builtin .append =>
      match c.argTypes.toList, c.args.toList with
      | [t, u], [s, x] => (match P.underlying t, P.underlying u with
        | some (.slice e), some (.slice _) | some (.slice e), some .string => (match P.info? e with
          | some i => (match i.zero with
            | some z => if 0 < i.size ∧ z.cells.size = i.size then some (.append e i.size i.bytes s x) else none
            | none => none)
          | none => none)
        | _, _ => none)
      | _, _ => none
    | .builtin .copy =>
      match c.argTypes.toList, c.args.toList with
      | [t, _], [d, s] => (match P.underlying t with
        | some (.slice e) => (sizeT P e).map fun z => .copy z d s
        | _ => none)
      | _, _ => none
    | .builtin .len =>
      match c.argTypes.toList, c.args.toList with
      | [t], [x] => (match P.underlying t with
        | some .string => some (.lenO true x)
        | some (.slice _) => some (.lenO false x)
        | some (.array n _) => some (.lenC n)
        | some (.pointer a) => (match P.underlying a with | some (.array n _) => some (.lenC n) | _ => none)
        | _ => none)
      | _, _ => none
    | .builtin .min => some (.minmax false c.args.toList)
    | .builtin .max => some (.minmax true c.args.toList)
    | _ => none
  | _ => none

/-- The bits of what comes before each operation, by the edges that bind. -/
def masks (ops : List Oper) : List Nat :=
  ops.foldl (init := []) fun acc o =>
    acc ++ [o.after.toList.foldl (fun s e => cond (Region.binds .any e) (s ||| (2 ^ e.on ||| acc.getD e.on 0)) s) 0]

def ordered (ms : List Nat) (i j : Nat) : Bool := cond (Nat.blt i j) ((ms.getD j 0).testBit i) (Nat.beq i j || (ms.getD i 0).testBit j)

def opdTmps : List Operand → List Tmp
  | [] => []
  | .tmp t :: r => t :: opdTmps r
  | _ :: r => opdTmps r

def dstOf (ops : List Oper) (j : Nat) : Option Tmp := (ops[j]?).bind (·.dst)

def namesOf (ops : List Oper) (o : Oper) : List Tmp :=
  o.dst.toList ++ (opdTmps o.op.operands.toList ++ (match o.guard with | some (j, _) => (dstOf ops j).toList | none => []))

/-- Each temporary's writers and readers are in order. -/
def tmpsOk (ops : List Oper) (ms : List Nat) : Bool :=
  ops.zipIdx.all fun (o, i) => (namesOf ops o).all fun t => ops.zipIdx.all fun (p, j) => Nat.beq i j || p.dst != some t || ordered ms i j

/-- The edges that bind lead back. -/
def edgesOk (ops : List Oper) : Bool :=
  ops.zipIdx.all fun (o, i) => o.after.toList.all fun e => !Region.binds .any e || Nat.blt e.on i

def writersOk (cs : List AOper) (ms : List Nat) : Bool :=
  cs.zipIdx.all fun (o, i) => !isWriter o.op || cs.zipIdx.all fun (p, j) => !isWriter p.op || ordered ms i j

def isLoad : AOp → Bool
  | .load _ _ => true
  | _ => false

/-- The writers that are not ordered with an operation. -/
def needsChk (cs : List AOper) (ms : List Nat) (i : Nat) : List Nat :=
  (cs.zipIdx.filter fun (p, j) => isWriter p.op && !ordered ms i j).map (·.2)

def okDst (nt : Nat) : Option Tmp → Bool
  | some d => Nat.blt d nt
  | none => true

def compOper (P : Program) (ops : List Oper) (ntmps : Nat) (o : Oper) : Option AOper :=
  match compOp P o.op with
  | some op => if o.op.operands.toList.all okOpd && okDst ntmps o.dst then
      some { dst := o.dst, op, guard := o.guard.map fun (j, w) => (dstOf ops j, w), chk := [] } else none
  | none => none

def compOpers (P : Program) (ops : List Oper) (ntmps : Nat) : List Oper → Option (List AOper)
  | [] => some []
  | o :: rest => match compOper P ops ntmps o, compOpers P ops ntmps rest with
    | some x, some r => some (x :: r)
    | _, _ => none

/-- A region whose last operation begins to range over a string: what goes before it, the string, the iterator. -/
def asRange (P : Program) (nt : Nat) (ops : Array Oper) : Option (List AOper × Operand × Tmp) :=
  match ops[ops.size - 1]? with
  | some ⟨some d, .range t x, _, _, _, none⟩ =>
    (match P.underlying t, compOpers P ops.toList nt (ops.toList.take (ops.size - 1)) with
    | some .string, some pre => if okOpd x && Nat.blt d nt then some (pre, x, d) else none
    | _, _ => none)
  | _ => none

/-- A region whose first operation takes the next code point out of the iterator 't7'. -/
def asNext (P : Program) (nt : Nat) (t7 : Tmp) (ops : Array Oper) : Option (Tmp × List AOper) :=
  match ops[(0 : Nat)]? with
  | some ⟨some d, .next (.tmp t) true, _, _, _, none⟩ =>
    (match compOpers P ops.toList nt (ops.toList.drop 1) with
    | some post => if Nat.beq t t7 && Nat.blt d nt then some (d, post) else none
    | none => none)
  | _ => none

def compC (P : Program) (ntmps : Nat) : Code → Option ACode
  | .skip => some .skip
  | .region _ ops false => (compOpers P ops.toList ntmps ops.toList).map .region
  | .region _ ops true =>
    match compOpers P ops.toList ntmps ops.toList with
    | some cs =>
      let ms := masks ops.toList
      if tmpsOk ops.toList ms && writersOk cs ms && edgesOk ops.toList then
        some (.dregion (cs.zipIdx.map fun (c, i) => { c with chk := cond (isLoad c.op) (needsChk cs ms i) [] }))
      else none
    | none => none
  | .seq (.region i ops false) (.block k (.loop (.seq (.region j nx false) c))) =>
    match asRange P ntmps ops with
    | some (pre, x, t7) => (match asNext P ntmps t7 nx, compC P ntmps c with
      | some (t8, post), some z => some (.strRange pre x t7 t8 k post z)
      | _, _ => none)
    | none => match compC P ntmps (.region i ops false), compC P ntmps (.block k (.loop (.seq (.region j nx false) c))) with | some x, some y => some (.seq x y) | _, _ => none
  | .seq a b => match compC P ntmps a, compC P ntmps b with | some x, some y => some (.seq x y) | _, _ => none
  | .cond c a b => match compC P ntmps a, compC P ntmps b with | some x, some y => if okOpd c then some (.cond c x y) else none | _, _ => none
  | .block id c => (compC P ntmps c).map (.block id)
  | .scope c => compC P ntmps c
  | .label _ => some .skip
  | .loop c => (compC P ntmps c).map .loop
  | .exit id => some (.exit id)
  | .ret => some .ret
  | _ => none

def compRes (P : Program) : List ResultVar → Option (List (Sum Tmp (Tmp × Option Nat)))
  | [] => some []
  | .tmp t :: r => (compRes P r).map (.inl t :: ·)
  | .cell a t :: r => match oneOrAgg P t, compRes P r with | some s, some rs => some (.inr (a, s) :: rs) | _, _ => none

def compF (P : Program) (f : FuncId) : Option AFunc :=
  match P.funcs[f]? with
  | some fn => (match fn.body with
    | some c => (match compC P fn.ntmps c, compRes P fn.results.toList with
      | some code, some res => if fn.name != "runtime.NumGoroutine" then some { code, res } else none
      | _, _ => none)
    | none => none)
  | none => none

end Go.Ax
