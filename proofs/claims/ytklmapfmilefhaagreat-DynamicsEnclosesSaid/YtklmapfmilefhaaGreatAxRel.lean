/-
  AX, PART 3: how the interpreter's values and heap stand for the model's.
-/
import Derived.Test.YtklmapfmilefhaaGreatAxComp
import Derived.Laws.Sem
import Derived.Laws.Cells
import Derived.Laws.World
import Derived.Laws.Rows
import Derived.Laws.CopyRow
import Derived.Laws.Append
set_option linter.unusedSimpArgs false
set_option linter.unusedVariables false
set_option linter.unusedSectionVars false
namespace Go.Ax

inductive St where
  | absent
  | dead (pin : Option Nat)
  | live (blk base : Nat) (cap : Option Nat)

abbrev Phi := Nat → St

def ARel (φ : Phi) (a a' : Addr) : Prop :=
  match φ a.block with
  | .live b o _ => a' = ⟨b, o + a.off, none⟩
  | .dead p => ∀ b, p = some b → a' = ⟨b, a.off, none⟩
  | .absent => False

def FlagRel (φ : Phi) (a a' : Addr) (c : Nat) : Prop :=
  a.off = 0 ∧ match φ a.block with
  | .live b o k => o = 0 ∧ a' = ⟨b, 0, none⟩ ∧ k = some c
  | .dead _ => True
  | .absent => False

mutual
inductive VRel (φ : Phi) : Value → Value → Prop where
  | bool (b : Bool) : VRel φ (.bool b) (.bool b)
  | int (k : IntKind) (n : Int) : VRel φ (.int k n) (.int k n)
  | string (s : ByteArray) : VRel φ (.string s) (.string s)
  | ptrN : VRel φ (.pointer none) (.pointer none)
  | ptr {a a' : Addr} (h : ARel φ a a') : VRel φ (.pointer (some a)) (.pointer (some a'))
  | slcN : VRel φ (.slice none 0 0) (.slice none 0 0)
  | slc {a a' : Addr} {n fl c : Nat} (h0 : n = 0 ∨ ARel φ a a') (hc : n ≤ c) (h1 : fl = 1 → FlagRel φ a a' c) : VRel φ (.slice (some a) n fl) (.slice (some a') n c)
  | func (f : FuncId) {xs xs' ys ys' : Array Value} (hx : VsRel φ xs.toList xs'.toList) (hy : VsRel φ ys.toList ys'.toList) : VRel φ (.func (.func f) xs ys) (.func (.func f) xs' ys')
  | nilFunc : VRel φ .nilFunc .nilFunc
  | nilIface : VRel φ .nilIface .nilIface
  | iface (t : TypeId) {v v' : Value} (h : VRel φ v v') : VRel φ (.iface t v) (.iface t v')
  | agg {xs ys : Array Value} (h1 : ∀ x ∈ xs.toList, x.oneCell' = true) (h : VsRel φ xs.toList ys.toList) : VRel φ (.agg xs) (.agg ys)
  | tuple {xs ys : Array Value} (h : VsRel φ xs.toList ys.toList) : VRel φ (.tuple xs) (.tuple ys)
inductive VsRel (φ : Phi) : List Value → List Value → Prop where
  | nil : VsRel φ [] []
  | cons {v v' : Value} {l l' : List Value} (h : VRel φ v v') (hs : VsRel φ l l') : VsRel φ (v :: l) (v' :: l')
end

def Le (φ φ' : Phi) : Prop := ∀ i, φ i ≠ .absent → φ' i = φ i ∨ (φ' i = .dead none ∧ ∀ b, φ i ≠ .dead (some b))
theorem Le.refl (φ : Phi) : Le φ φ := fun _ _ => .inl rfl
theorem Le.trans {a b c : Phi} (h : Le a b) (h' : Le b c) : Le a c := fun i hi => by
  rcases h i hi with e | ⟨e, u⟩
  · rcases h' i (by rw [e]; exact hi) with e' | ⟨e', u'⟩
    · exact .inl (e'.trans e)
    · exact .inr ⟨e', fun x => by rw [← e]; exact u' x⟩
  · rcases h' i (by rw [e]; simp) with e' | ⟨e', _⟩
    · exact .inr ⟨e'.trans e, u⟩
    · exact .inr ⟨e', u⟩

theorem ARel.mono {φ φ' : Phi} {a a' : Addr} (hl : Le φ φ') (h : ARel φ a a') : ARel φ' a a' := by
  unfold ARel at *
  cases hs : φ a.block with
  | absent => simp [hs] at h
  | dead p =>
    simp only [hs] at h
    rcases hl a.block (by simp [hs]) with e | ⟨e, u⟩
    · simpa [e, hs] using h
    · simp [e]
  | live b o k => rcases hl a.block (by simp [hs]) with e | ⟨e, u⟩ <;> simp_all

theorem FlagRel.mono {φ φ' : Phi} {a a' : Addr} {c : Nat} (hl : Le φ φ') (h : FlagRel φ a a' c) : FlagRel φ' a a' c := by
  unfold FlagRel at *
  refine ⟨h.1, ?_⟩
  have h := h.2
  cases hs : φ a.block with
  | absent => simp [hs] at h
  | dead p => rcases hl a.block (by simp [hs]) with e | ⟨e, u⟩ <;> simp [e, hs]
  | live b o k => rcases hl a.block (by simp [hs]) with e | ⟨e, u⟩ <;> simp_all

mutual
theorem VRel.mono {φ φ' : Phi} (hl : Le φ φ') : ∀ {v v' : Value}, VRel φ v v' → VRel φ' v v'
  | _, _, .bool b => .bool b
  | _, _, .int k n => .int k n
  | _, _, .string s => .string s
  | _, _, .ptrN => .ptrN
  | _, _, .ptr h => .ptr (h.mono hl)
  | _, _, .slcN => .slcN
  | _, _, .slc h0 hc h1 => .slc (h0.imp id (·.mono hl)) hc (fun e => (h1 e).mono hl)
  | _, _, .func f hx hy => .func f (VsRel.mono hl hx) (VsRel.mono hl hy)
  | _, _, .nilFunc => .nilFunc
  | _, _, .nilIface => .nilIface
  | _, _, .iface t h => .iface t (VRel.mono hl h)
  | _, _, .agg h1 h => .agg h1 (VsRel.mono hl h)
  | _, _, .tuple h => .tuple (VsRel.mono hl h)
theorem VsRel.mono {φ φ' : Phi} (hl : Le φ φ') : ∀ {l l' : List Value}, VsRel φ l l' → VsRel φ' l l'
  | _, _, .nil => .nil
  | _, _, .cons h hs => .cons (VRel.mono hl h) (VsRel.mono hl hs)
end

theorem VsRel.length {φ : Phi} : ∀ {l l' : List Value}, VsRel φ l l' → l'.length = l.length
  | _, _, .nil => rfl
  | _, _, .cons _ hs => by simp [VsRel.length hs]
theorem VsRel.get {φ : Phi} : ∀ {l l' : List Value}, VsRel φ l l' → ∀ (i : Nat) (v : Value), l[i]? = some v → ∃ v', l'[i]? = some v' ∧ VRel φ v v'
  | _, _, .nil, i, v, h => by simp at h
  | _, _, .cons hv hs, 0, v, h => by simp at h; subst h; exact ⟨_, rfl, hv⟩
  | _, _, .cons hv hs, i + 1, v, h => by simp at h; simpa using VsRel.get hs i v h
theorem VsRel.get' {φ : Phi} : ∀ {l l' : List Value}, VsRel φ l l' → ∀ (i : Nat) (v' : Value), l'[i]? = some v' → ∃ v, l[i]? = some v ∧ VRel φ v v'
  | _, _, .nil, i, v, h => by simp at h
  | _, _, .cons hv hs, 0, v, h => by simp at h; subst h; exact ⟨_, rfl, hv⟩
  | _, _, .cons hv hs, i + 1, v, h => by simp at h; simpa using VsRel.get' hs i v h
theorem VsRel.of_get {φ : Phi} : ∀ {l l' : List Value}, l'.length = l.length → (∀ (i : Nat) (v : Value), l[i]? = some v → ∃ v' : Value, l'[i]? = some v' ∧ VRel φ v v') → VsRel φ l l'
  | [], [], _, _ => .nil
  | [], _ :: _, h, _ => by simp at h
  | _ :: _, [], h, _ => by simp at h
  | v :: l, v' :: l', h, hg => by
    obtain ⟨u, hu, hr⟩ := hg 0 v rfl
    simp at hu; subst hu
    exact .cons hr (VsRel.of_get (by simpa using h) (fun i w hw => by simpa using hg (i + 1) w (by simpa using hw)))
theorem VsRel.append {φ : Phi} : ∀ {l l' m m' : List Value}, VsRel φ l l' → VsRel φ m m' → VsRel φ (l ++ m) (l' ++ m')
  | _, _, _, _, .nil, h => h
  | _, _, _, _, .cons hv hs, h => .cons hv (VsRel.append hs h)
theorem VsRel.take {φ : Phi} : ∀ {l l' : List Value} (n : Nat), VsRel φ l l' → VsRel φ (l.take n) (l'.take n)
  | _, _, 0, _ => by simpa using .nil
  | _, _, n + 1, .nil => by simpa using .nil
  | _, _, n + 1, .cons hv hs => by simpa using .cons hv (VsRel.take n hs)
theorem VsRel.drop {φ : Phi} : ∀ {l l' : List Value} (n : Nat), VsRel φ l l' → VsRel φ (l.drop n) (l'.drop n)
  | _, _, 0, h => by simpa using h
  | _, _, n + 1, .nil => by simpa using .nil
  | _, _, n + 1, .cons hv hs => by simpa using VsRel.drop n hs
theorem VsRel.setAt {φ : Phi} {l l' cs cs' : List Value} (off : Nat) (h : VsRel φ l l') (hc : VsRel φ cs cs') : VsRel φ (setAt l off cs) (setAt l' off cs') := by
  unfold Ax.setAt
  rw [hc.length]
  exact (h.take off).append (hc.append (h.drop _))
theorem setAt_length {l cs : List Value} {off : Nat} (h : off + cs.length ≤ l.length) : (setAt l off cs).length = l.length := by
  unfold setAt; simp; omega

theorem VRel.one {φ : Phi} {v v' : Value} (h : VRel φ v v') : v'.oneCell' = v.oneCell' := by
  cases h <;> rfl
theorem VRel.storable {φ : Phi} {v v' : Value} (h : VRel φ v v') : Ax.storable v' = Ax.storable v := by
  cases h <;> rfl
theorem VsRel.one {φ : Phi} {l l' : List Value} (h : VsRel φ l l') (h1 : ∀ v ∈ l, v.oneCell' = true) : ∀ v ∈ l', v.oneCell' = true := by
  intro v hv
  obtain ⟨i, hi⟩ := List.mem_iff_getElem?.1 hv
  obtain ⟨u, hu, hr⟩ := h.get' i v hi
  rw [hr.one]
  exact h1 u (List.mem_of_getElem? hu)
theorem VRel.cells {φ : Phi} {v v' : Value} (h : VRel φ v v') : VsRel φ v.cells.toList v'.cells.toList := by
  cases h <;> first
    | (rename_i h1 h2; exact h2)
    | (rename_i h; simp only [Value.cells]; exact .cons (.ptr h) .nil)
    | (rename_i h1 h2 h3; simp only [Value.cells]; exact .cons (.slc h1 h2 h3) .nil)
    | (rename_i h; simp only [Value.cells]; exact .cons (.iface _ h) .nil)
    | (rename_i h; simp only [Value.cells]; exact .cons (.tuple h) .nil)
    | (rename_i h h'; simp only [Value.cells]; exact .cons (.func _ h h') .nil)
    | (simp only [Value.cells]; exact .cons (by constructor) .nil)
theorem cells_one {v : Value} (hs : storable v = true) (ha : ∀ xs, v = .agg xs → ∀ x ∈ xs.toList, x.oneCell' = true) : ∀ x ∈ v.cells.toList, x.oneCell' = true := by
  cases v <;> simp_all [Value.cells, Value.oneCell', storable]
theorem VRel.agg_one {φ : Phi} {v v' : Value} (h : VRel φ v v') : ∀ xs, v = .agg xs → ∀ x ∈ xs.toList, x.oneCell' = true := by
  intro xs e
  subst e
  cases h with
  | agg h1 h => exact h1

/-! ### The heap -/

structure R (P : Program) (φ : Phi) (σ : AHeap) (w : World) : Prop where
  bnd : ∀ i, σ.size ≤ i → φ i = .absent
  dead : ∀ i p, φ i = .dead p → σ.get i = none
  live : ∀ i b o k, φ i = .live b o k → ∃ obj c e fr, σ.get i = some obj ∧ w.heap[b]? = some (.cells c e fr) ∧
    (∀ (j : Nat) (v : Value), obj.cells[j]? = some v → v.oneCell' = true ∧ ∃ v' : Value, c[o + j]? = some v' ∧ VRel φ v v') ∧
    (obj.own = true → o = 0 ∧ fr = (0, 0) ∧ e = obj.elem ∧ (∀ n, k = some n → c.size = n * P.cellsOf e))
  excl : ∀ i j b o k b' o' k' obj, φ i = .live b o k → φ j = .live b' o' k' → σ.get i = some obj → obj.own = true → i ≠ j → b ≠ b'

def Owned (φ : Phi) (σ : AHeap) (b : Nat) : Prop := ∃ i o k obj, φ i = .live b o k ∧ σ.get i = some obj ∧ obj.own = true

structure Post (P : Program) (φ : Phi) (σ : AHeap) (w : World) (φ' : Phi) (σ' : AHeap) (w' : World) : Prop where
  size : σ.size ≤ σ'.size
  le : Le φ φ'
  abs : ∀ i, i < σ.size → φ i = .absent → φ' i = .absent ∧ σ'.get i = σ.get i
  rel : R P φ' σ' w'
  own : ∀ b, Owned φ' σ' b → Owned φ σ b ∨ w.heap.size ≤ b
  new : ∀ i b o k, φ i = .absent → φ' i = .live b o k → Owned φ σ b ∨ w.heap.size ≤ b
  keep : ∀ b, b < w.heap.size → ¬ Owned φ σ b → w'.heap[b]? = w.heap[b]?
  grow : w.heap.size ≤ w'.heap.size
  env : w'.os = w.os ∧ w'.output = w.output ∧ w'.tape = w.tape

variable {P : Program}

theorem Post.refl {φ : Phi} {σ : AHeap} {w : World} (h : R P φ σ w) : Post P φ σ w φ σ w :=
  ⟨Nat.le_refl _, Le.refl _, fun _ _ h => ⟨h, rfl⟩, h, fun _ h => .inl h, fun i b o k h1 h2 => by (rw [h1] at h2; cases h2), fun _ _ _ => rfl, Nat.le_refl _, rfl, rfl, rfl⟩

theorem Post.trans {φ φ1 φ2 : Phi} {σ σ1 σ2 : AHeap} {w w1 w2 : World} (h : Post P φ σ w φ1 σ1 w1) (h' : Post P φ1 σ1 w1 φ2 σ2 w2) : Post P φ σ w φ2 σ2 w2 where
  size := Nat.le_trans h.size h'.size
  le := h.le.trans h'.le
  abs i hi ha := by
    obtain ⟨h1, h2⟩ := h.abs i hi ha
    obtain ⟨h3, h4⟩ := h'.abs i (Nat.lt_of_lt_of_le hi h.size) h1
    exact ⟨h3, h4.trans h2⟩
  rel := h'.rel
  own b hb := by
    rcases h'.own b hb with hb | hb
    · exact h.own b hb
    · exact .inr (Nat.le_trans h.grow hb)
  new i b o k h1 h2 := by
    have ownB : Owned φ1 σ1 b ∨ w1.heap.size ≤ b → Owned φ σ b ∨ w.heap.size ≤ b := by
      intro hb
      rcases hb with hb | hb
      · exact h.own b hb
      · exact .inr (Nat.le_trans h.grow hb)
    cases h3 : φ1 i with
    | absent => exact ownB (h'.new i b o k h3 h2)
    | dead p =>
      rcases h'.le i (by simp [h3]) with e | ⟨e, _⟩ <;> rw [h2] at e
      · rw [h3] at e; cases e
      · cases e
    | live b1 o1 k1 =>
      rcases h'.le i (by simp [h3]) with e | ⟨e, _⟩ <;> rw [h2] at e
      · rw [h3] at e
        injection e with e1 e2 e3
        subst e1
        exact h.new i b o1 k1 h1 h3
      · cases e
  keep b hb hn := by
    rw [h'.keep b (Nat.lt_of_lt_of_le hb h.grow) ?_, h.keep b hb hn]
    intro ho
    rcases h.own b ho with ho | ho
    · exact hn ho
    · omega
  grow := Nat.le_trans h.grow h'.grow
  env := ⟨h'.env.1.trans h.env.1, h'.env.2.1.trans h.env.2.1, h'.env.2.2.trans h.env.2.2⟩

theorem R.drew {φ : Phi} {σ : AHeap} {w : World} (h : R P φ σ w) : R P φ σ w.drew := ⟨h.bnd, h.dead, h.live, h.excl⟩
theorem Post.drew {φ : Phi} {σ : AHeap} {w : World} (h : R P φ σ w) : Post P φ σ w φ σ w.drew :=
  ⟨Nat.le_refl _, Le.refl _, fun _ _ h => ⟨h, rfl⟩, h.drew, fun _ h => .inl h, fun i b o k h1 h2 => by (rw [h1] at h2; cases h2), fun _ _ _ => rfl, Nat.le_refl _, rfl, rfl, rfl⟩

theorem add_eq (b o n : Nat) : (⟨b, o, none⟩ : Addr).add n = ⟨b, o + n, none⟩ := by
  unfold Addr.add; split <;> simp_all

theorem R.blk_lt {φ : Phi} {σ : AHeap} {w : World} (h : R P φ σ w) {i b o : Nat} {k : Option Nat} (hi : φ i = .live b o k) : b < w.heap.size := by
  obtain ⟨obj, c, e, fr, _, hc, _⟩ := h.live i b o k hi
  exact (Array.getElem?_eq_some_iff.1 hc).1
theorem R.id_lt {φ : Phi} {σ : AHeap} {w : World} (h : R P φ σ w) {i : Nat} (hi : φ i ≠ .absent) : i < σ.size := by
  rcases Nat.lt_or_ge i σ.size with h' | h'
  · exact h'
  · exact absurd (h.bnd i h') hi

theorem R.cell {φ : Phi} {σ : AHeap} {w : World} (h : R P φ σ w) {a a' : Addr} (ha : ARel φ a a') {v : Value} (hv : σ.cell a = some v) :
    ∃ v', w.cell? a' = some v' ∧ VRel φ v v' ∧ v.oneCell' = true := by
  unfold ARel at ha
  unfold AHeap.cell at hv
  cases hs : φ a.block with
  | absent => simp [hs] at ha
  | dead p => simp [h.dead _ _ hs] at hv
  | live b o k =>
    simp only [hs] at ha
    obtain ⟨obj, c, e, fr, hg, hc, hcells, _⟩ := h.live _ _ _ _ hs
    simp only [hg] at hv
    obtain ⟨h1, v', hv', hr⟩ := hcells _ _ hv
    exact ⟨v', by subst ha; simp [World.cell?, hc, hv'], hr, h1⟩

theorem cells_spec {σ : AHeap} {a : Addr} {n : Nat} {cs : List Value} (h : σ.cells a n = some cs) :
    ∃ obj, σ.get a.block = some obj ∧ a.off + n ≤ obj.cells.length ∧ cs = (obj.cells.drop a.off).take n := by
  unfold AHeap.cells at h
  cases hg : σ.get a.block with
  | none => simp [hg] at h
  | some obj =>
    simp only [hg] at h
    cases hb : Nat.ble (a.off + n) obj.cells.length with
    | false => simp [hb] at h
    | true => simp [hb] at h; exact ⟨obj, rfl, Nat.le_of_ble_eq_true hb, h.symm⟩

theorem R.cells {φ : Phi} {σ : AHeap} {w : World} (h : R P φ σ w) {a a' : Addr} {n : Nat} (ha : ARel φ a a') {cs : List Value} (hv : σ.cells a n = some cs) :
    ∃ cs', VsRel φ cs cs' ∧ cs.length = n ∧ (∀ v ∈ cs, v.oneCell' = true) ∧ (∀ (j : Nat) (v : Value), cs'[j]? = some v → w.cell? (a'.add j) = some v) := by
  obtain ⟨obj, hg, hle, rfl⟩ := cells_spec hv
  unfold ARel at ha
  cases hs : φ a.block with
  | absent => simp [hs] at ha
  | dead p => simp [h.dead _ _ hs] at hg
  | live b o k =>
    simp only [hs] at ha
    subst ha
    obtain ⟨obj', c, e, fr, hg', hc, hcells, _⟩ := h.live _ _ _ _ hs
    obtain rfl : obj = obj' := Option.some.inj (hg.symm.trans hg')
    have hlen : ((obj.cells.drop a.off).take n).length = n := by simp; omega
    refine ⟨(c.toList.drop (o + a.off)).take n, ?_, hlen, ?_, ?_⟩
    · have key : ∀ (i : Nat) (v : Value), ((obj.cells.drop a.off).take n)[i]? = some v → ∃ v' : Value, ((c.toList.drop (o + a.off)).take n)[i]? = some v' ∧ VRel φ v v' := by
        intro i v hi
        have hin : i < n := by have := (List.getElem?_eq_some_iff.1 hi).1; omega
        rw [List.getElem?_take_of_lt hin, List.getElem?_drop] at hi
        obtain ⟨_, v', hv', hr⟩ := hcells _ _ hi
        refine ⟨v', ?_, hr⟩
        rw [List.getElem?_take_of_lt hin, List.getElem?_drop]
        rw [← Array.getElem?_toList] at hv'
        rw [← hv']
        congr 1
        omega
      refine VsRel.of_get ?_ key
      rw [hlen]
      rcases Nat.eq_zero_or_pos n with rfl | hp
      · simp
      · obtain ⟨v', hv', _⟩ := key (n - 1) _ (List.getElem?_eq_getElem (by omega))
        have h1 := (List.getElem?_eq_some_iff.1 hv').1
        simp at h1 ⊢; omega
    · intro v hv
      obtain ⟨i, hi⟩ := List.mem_iff_getElem?.1 hv
      have hin : i < n := by have := (List.getElem?_eq_some_iff.1 hi).1; omega
      rw [List.getElem?_take_of_lt hin, List.getElem?_drop] at hi
      exact (hcells _ _ hi).1
    · intro j v hj
      have hin : j < n := by
        have := (List.getElem?_eq_some_iff.1 hj).1
        simp at this; omega
      rw [List.getElem?_take_of_lt hin, List.getElem?_drop] at hj
      rw [add_eq]
      simp only [World.cell?, hc, Option.isSome_none, Bool.false_eq_true, if_false]
      rw [← Array.getElem?_toList, ← hj]

def Phi.set (φ : Phi) (i : Nat) (s : St) : Phi := fun j => if j = i then s else φ j

/-- A new block. -/
theorem R.push {φ : Phi} {σ : AHeap} {w : World} (h : R P φ σ w) {cs cs' : List Value} (hr : VsRel φ cs cs') (h1 : ∀ v ∈ cs, v.oneCell' = true) (e : TypeId) (c : Array Value)
    (hc : ∀ (j : Nat) (v : Value), cs'[j]? = some v → c[j]? = some v) (k : Option Nat) (hk : ∀ n, k = some n → c.size = n * P.cellsOf e) :
    Post P φ σ w (φ.set σ.size (.live w.heap.size 0 k)) (σ.push ⟨cs, e, true⟩) (w.alloc (.cells c e)) := by
  have hab : φ σ.size = .absent := h.bnd _ (Nat.le_refl _)
  have hle : Le φ (φ.set σ.size (.live w.heap.size 0 k)) := by
    intro i hi
    have : i ≠ σ.size := fun e => hi (e ▸ hab)
    exact .inl (by simp [Phi.set, this])
  have hold : ∀ b, b < w.heap.size → (w.alloc (.cells c e)).heap[b]? = w.heap[b]? := fun b hb => heap_alloc_old w _ b hb
  refine ⟨by rw [AHeap.size_push]; omega, hle, ?_, ?_, ?_, ?_, fun b hb _ => hold b hb, by simp, ?_⟩
  · intro i hi ha
    have : i ≠ σ.size := by omega
    exact ⟨by simp [Phi.set, this, ha], by simp [AHeap.get_push, this]⟩
  · refine ⟨?_, ?_, ?_, ?_⟩
    · intro i hi
      rw [AHeap.size_push] at hi
      have : i ≠ σ.size := by omega
      simp only [Phi.set, this, if_false]
      exact h.bnd i (by omega)
    · intro i p hi
      by_cases hs : i = σ.size
      · subst hs; simp [Phi.set] at hi
      · simp only [Phi.set, hs, if_false] at hi
        simp [AHeap.get_push, hs, h.dead i p hi]
    · intro i b o k' hi
      by_cases hs : i = σ.size
      · subst hs
        simp only [Phi.set, if_true, St.live.injEq] at hi
        obtain ⟨rfl, rfl, rfl⟩ := hi
        refine ⟨⟨cs, e, true⟩, c, e, (0, 0), by simp [AHeap.get_push], heap_alloc_new w _, ?_, fun _ => ⟨rfl, rfl, rfl, hk⟩⟩
        intro j v hj
        refine ⟨h1 v (List.mem_of_getElem? hj), ?_⟩
        obtain ⟨v', hv', hrel⟩ := hr.get j v hj
        exact ⟨v', by rw [Nat.zero_add]; exact hc j v' hv', hrel.mono hle⟩
      · simp only [Phi.set, hs, if_false] at hi
        obtain ⟨obj, c', e', fr, hg, hb, hcells, hown⟩ := h.live i b o k' hi
        refine ⟨obj, c', e', fr, by simp [AHeap.get_push, hs, hg], by rw [hold b (h.blk_lt hi)]; exact hb, ?_, hown⟩
        intro j v hj
        obtain ⟨ho, v', hv', hrel⟩ := hcells j v hj
        exact ⟨ho, v', hv', hrel.mono hle⟩
    · intro i j b o k' b' o' k'' obj hi hj hg ho hne
      by_cases hs : i = σ.size
      · subst hs
        simp only [Phi.set, if_true, St.live.injEq] at hi
        obtain ⟨rfl, rfl, rfl⟩ := hi
        have : j ≠ σ.size := fun e => hne e.symm
        simp only [Phi.set, this, if_false] at hj
        have := h.blk_lt hj
        omega
      · simp only [Phi.set, hs, if_false] at hi
        by_cases hs' : j = σ.size
        · subst hs'
          simp only [Phi.set, if_true, St.live.injEq] at hj
          obtain ⟨rfl, rfl, rfl⟩ := hj
          have := h.blk_lt hi
          omega
        · simp only [Phi.set, hs', if_false] at hj
          simp only [AHeap.get_push, hs, if_false] at hg
          exact h.excl i j b o k' b' o' k'' obj hi hj hg ho hne
  · rintro b ⟨i, o, k', obj, hi, hg, ho⟩
    by_cases hs : i = σ.size
    · subst hs
      simp only [Phi.set, if_true, St.live.injEq] at hi
      exact .inr (by omega)
    · simp only [Phi.set, hs, if_false] at hi
      simp only [AHeap.get_push, hs, if_false] at hg
      exact .inl ⟨i, o, k', obj, hi, hg, ho⟩
  · intro i b o k' h1' h2'
    by_cases hs : i = σ.size
    · subst hs
      simp only [Phi.set, if_true, St.live.injEq] at h2'
      exact .inr (by omega)
    · simp only [Phi.set, hs, if_false] at h2'
      rw [h1'] at h2'; cases h2'
  · exact ⟨rfl, rfl, rfl⟩

theorem setRow_get (w : World) (g : Nat) (cs : Array Value) (b : Nat) (h : b ≠ g) : (w.setRow g cs).heap[b]? = w.heap[b]? := by
  simp only [World.setRow, Array.getElem?_modify]
  rw [if_neg (Ne.symm h)]

/-- The cells of an owned block are written. -/
theorem R.put {φ : Phi} {σ : AHeap} {w : World} (h : R P φ σ w) {i b o : Nat} {k : Option Nat} {obj : AObj} (hi : φ i = .live b o k) (hg : σ.get i = some obj) (hown : obj.own = true)
    {cs : List Value} {cs' : Array Value} (hr : ∀ (j : Nat) (v : Value), cs[j]? = some v → ∃ v' : Value, cs'[j]? = some v' ∧ VRel φ v v') (h1 : ∀ v ∈ cs, v.oneCell' = true) {c : Array Value} {e : TypeId} {fr : Nat × Nat}
    (hb : w.heap[b]? = some (.cells c e fr)) (hsz : cs'.size = c.size) :
    Post P φ σ w φ (σ.put i ⟨cs, obj.elem, true⟩) (w.setRow b cs') := by
  obtain ⟨obj', c', e', fr', hg', hb', hcells, hall⟩ := h.live i b o k hi
  obtain rfl : obj = obj' := Option.some.inj (hg.symm.trans hg')
  rw [hb] at hb'
  obtain ⟨rfl, rfl, rfl⟩ : c = c' ∧ e = e' ∧ fr = fr' := by
    have := Option.some.inj hb'
    injection this with h1 h2 h3
    exact ⟨h1, h2, h3⟩
  obtain ⟨ho, hfr, he, hk⟩ := hall hown
  subst hfr
  have hother : ∀ j b' o' k', φ j = .live b' o' k' → j ≠ i → b' ≠ b := fun j b' o' k' hj hne => Ne.symm (h.excl i j b o k b' o' k' obj hi hj hg hown (Ne.symm hne))
  refine ⟨Nat.le_refl _, Le.refl _, ?_, ?_, ?_, fun i b o k h1 h2 => by (rw [h1] at h2; cases h2), ?_, by simp, rfl, rfl, rfl⟩
  · intro j hj ha
    have : j ≠ i := fun e => by rw [e, hi] at ha; cases ha
    exact ⟨ha, by simp [AHeap.get_put, this]⟩
  · refine ⟨fun j hj => h.bnd j hj, ?_, ?_, ?_⟩
    · intro j p hj
      have : j ≠ i := fun e => by rw [e, hi] at hj; cases hj
      simp [AHeap.get_put, this, h.dead j p hj]
    · intro j b' o' k' hj
      by_cases hji : j = i
      · subst hji
        rw [hi] at hj
        obtain ⟨rfl, rfl, rfl⟩ : b = b' ∧ o = o' ∧ k = k' := by injection hj with h1 h2 h3; exact ⟨h1, h2, h3⟩
        refine ⟨⟨cs, obj.elem, true⟩, cs', e, (0, 0), by simp [AHeap.get_put], setRow_heap w b c cs' e (0, 0) hb, ?_, fun _ => ⟨ho, rfl, he, ?_⟩⟩
        · intro j' v hj'
          refine ⟨h1 v (List.mem_of_getElem? hj'), ?_⟩
          subst ho
          rw [Nat.zero_add]
          exact hr j' v hj'
        · rw [hsz]; exact hk
      · obtain ⟨obj2, c2, e2, fr2, hg2, hb2, hcells2, hall2⟩ := h.live j b' o' k' hj
        exact ⟨obj2, c2, e2, fr2, by simp [AHeap.get_put, hji, hg2], by rw [setRow_get w b cs' b' (hother j b' o' k' hj hji)]; exact hb2, hcells2, hall2⟩
    · intro j l b1 o1 k1 b2 o2 k2 ob hj hl hgj hoj hne
      by_cases hji : j = i
      · subst hji; exact h.excl j l b1 o1 k1 b2 o2 k2 obj hj hl hg hown hne
      · simp only [AHeap.get_put, hji, if_false] at hgj
        exact h.excl j l b1 o1 k1 b2 o2 k2 ob hj hl hgj hoj hne
  · rintro b' ⟨j, o', k', ob, hj, hgj, hoj⟩
    by_cases hji : j = i
    · subst hji; exact .inl ⟨j, o', k', obj, hj, hg, hown⟩
    · simp only [AHeap.get_put, hji, if_false] at hgj
      exact .inl ⟨j, o', k', ob, hj, hgj, hoj⟩
  · intro b' hb' hn
    have : b' ≠ b := fun e => hn (e ▸ ⟨i, o, k, obj, hi, hg, hown⟩)
    exact setRow_get w b cs' b' this

/-- A block is forgotten. -/
theorem R.kill {φ : Phi} {σ : AHeap} {w : World} (h : R P φ σ w) {i b o : Nat} {k : Option Nat} (hi : φ i = .live b o k) : Post P φ σ w (φ.set i (.dead none)) (σ.kill i) w := by
  have hle : Le φ (φ.set i (.dead none)) := by
    intro j _
    by_cases hj : j = i
    · exact .inr ⟨by simp [Phi.set, hj], fun x => by rw [hj, hi]; simp⟩
    · exact .inl (by simp [Phi.set, hj])
  have hil : i < σ.size := h.id_lt (by rw [hi]; simp)
  refine ⟨Nat.le_refl _, hle, ?_, ?_, ?_, ?_, fun _ _ _ => rfl, Nat.le_refl _, rfl, rfl, rfl⟩
  · intro j hj ha
    have : j ≠ i := fun e => by rw [e, hi] at ha; cases ha
    exact ⟨by simp [Phi.set, this, ha], by simp [AHeap.get_kill, this]⟩
  · refine ⟨?_, ?_, ?_, ?_⟩
    · intro j hj
      rw [AHeap.size_kill] at hj
      have : j ≠ i := by omega
      simp only [Phi.set, this, if_false]
      exact h.bnd j hj
    · intro j p hj
      by_cases hji : j = i
      · subst hji; simp [AHeap.get_kill]
      · simp only [Phi.set, hji, if_false] at hj
        simp [AHeap.get_kill, hji, h.dead j p hj]
    · intro j b' o' k' hj
      have hji : j ≠ i := fun e => by rw [e] at hj; simp [Phi.set] at hj
      simp only [Phi.set, hji, if_false] at hj
      obtain ⟨obj, c, e, fr, hg, hb, hcells, hall⟩ := h.live j b' o' k' hj
      refine ⟨obj, c, e, fr, by simp [AHeap.get_kill, hji, hg], hb, ?_, hall⟩
      intro l v hl
      obtain ⟨ho, v', hv', hrel⟩ := hcells l v hl
      exact ⟨ho, v', hv', hrel.mono hle⟩
    · intro j l b1 o1 k1 b2 o2 k2 ob hj hl hgj hoj hne
      have hji : j ≠ i := fun e => by rw [e] at hj; simp [Phi.set] at hj
      have hli : l ≠ i := fun e => by rw [e] at hl; simp [Phi.set] at hl
      simp only [Phi.set, hji, hli, if_false] at hj hl
      simp only [AHeap.get_kill, hji, if_false] at hgj
      exact h.excl j l b1 o1 k1 b2 o2 k2 ob hj hl hgj hoj hne
  · rintro b' ⟨j, o', k', ob, hj, hgj, hoj⟩
    have hji : j ≠ i := fun e => by rw [e] at hj; simp [Phi.set] at hj
    simp only [Phi.set, hji, if_false] at hj
    simp only [AHeap.get_kill, hji, if_false] at hgj
    exact .inl ⟨j, o', k', ob, hj, hgj, hoj⟩

  · intro j b' o' k' h1' h2'
    by_cases hji : j = i
    · subst hji; rw [hi] at h1'; cases h1'
    · simp only [Phi.set, hji, if_false] at h2'
      rw [h1'] at h2'; cases h2'

end Go.Ax
