/-
  AX: a loop over a string's code points.
-/
import Derived.Test.YtklmapfmilefhaaGreatAxDraw
import Derived.Laws.RangeString
set_option linter.unusedSimpArgs false
set_option linter.unusedVariables false
set_option linter.unusedSectionVars false
namespace Go.Ax
variable {P : Program}

def touch (w : World) (b : Nat) (o : Obj) : World := { w with heap := w.heap.setIfInBounds b o }

theorem touch_get (w : World) (b : Nat) (o : Obj) (i : Nat) (h : i ≠ b) : (touch w b o).heap[i]? = w.heap[i]? := by
  simp [touch, Array.getElem?_setIfInBounds, Ne.symm h]
theorem touch_self {w : World} {b : Nat} {o o' : Obj} (h : w.heap[b]? = some o') : (touch w b o).heap[b]? = some o := by
  have : b < w.heap.size := (Array.getElem?_eq_some_iff.1 h).1
  simp [touch, this]
theorem touch_size (w : World) (b : Nat) (o : Obj) : (touch w b o).heap.size = w.heap.size := by simp [touch]

theorem run_next {w : World} {b : Nat} {s : ByteArray} {pos : Nat} (h : w.heap[b]? = some (.stringIter s pos)) (ty : TypeId) :
    (Instr.next (.pointer (some ⟨b, 0, none⟩)) true ty).run P w = (if pos < s.size then
      .ok (.tuple #[.bool true, .int .i64 pos, .int .i32 (Utf8.decode s pos).1]) (touch w b (.stringIter s (pos + (Utf8.decode s pos).2))) else .ok (.tuple #[.bool false]) w) := by
  by_cases hp : pos < s.size
  · simp [Instr.next, getObj, setObj, Sem.run_bind, Sem.run, h, Result.andThen, hp, goInt, touch]
  · simp [Instr.next, getObj, Sem.run, h, hp]

theorem R.skip {φ : Phi} {σ : AHeap} {w : World} (h : R P φ σ w) (s : ByteArray) : Post P φ σ w (φ.set σ.size (.dead (some w.heap.size))) σ.skip (w.iter s 0) := by
  have hab : φ σ.size = .absent := h.bnd _ (Nat.le_refl _)
  have hle : Le φ (φ.set σ.size (.dead (some w.heap.size))) := by
    intro i hi
    have : i ≠ σ.size := fun e => hi (e ▸ hab)
    exact .inl (by simp [Phi.set, this])
  have hold : ∀ b, b < w.heap.size → (w.iter s 0).heap[b]? = w.heap[b]? := fun b hb => heap_alloc_old w _ b hb
  have hlv : ∀ i b o k, (φ.set σ.size (.dead (some w.heap.size))) i = .live b o k → i ≠ σ.size ∧ φ i = .live b o k := by
    intro i b o k hi
    by_cases hs : i = σ.size
    · subst hs; simp [Phi.set] at hi
    · simp only [Phi.set, hs, if_false] at hi; exact ⟨hs, hi⟩
  refine ⟨by rw [AHeap.size_skip]; omega, hle, ?_, ⟨?_, ?_, ?_, ?_⟩, ?_, ?_, fun b hb _ => hold b hb, by simp [World.iter], rfl, rfl, rfl⟩
  · intro i hi ha
    have : i ≠ σ.size := by omega
    exact ⟨by simp [Phi.set, this, ha], by simp [AHeap.get_skip, this]⟩
  · intro i hi
    rw [AHeap.size_skip] at hi
    have : i ≠ σ.size := by omega
    simp only [Phi.set, this, if_false]
    exact h.bnd i (by omega)
  · intro i p hi
    by_cases hs : i = σ.size
    · subst hs; simp [AHeap.get_skip]
    · simp only [Phi.set, hs, if_false] at hi
      simp [AHeap.get_skip, hs, h.dead i p hi]
  · intro i b o k hi
    obtain ⟨hs, hi⟩ := hlv i b o k hi
    obtain ⟨obj, c, e, fr, hg, hb, hcells, hall⟩ := h.live i b o k hi
    refine ⟨obj, c, e, fr, by simp [AHeap.get_skip, hs, hg], by rw [hold b (h.blk_lt hi)]; exact hb, ?_, hall⟩
    intro l v hl
    obtain ⟨ho, v', hv', hrel⟩ := hcells l v hl
    exact ⟨ho, v', hv', hrel.mono hle⟩
  · intro j l b1 o1 k1 b2 o2 k2 ob hj hl hgj hoj hne
    obtain ⟨hjs, hj⟩ := hlv _ _ _ _ hj
    obtain ⟨hls, hl⟩ := hlv _ _ _ _ hl
    simp only [AHeap.get_skip, hjs, if_false] at hgj
    exact h.excl j l b1 o1 k1 b2 o2 k2 ob hj hl hgj hoj hne
  · rintro b' ⟨j, o', k', ob, hj, hgj, hoj⟩
    obtain ⟨hjs, hj⟩ := hlv _ _ _ _ hj
    simp only [AHeap.get_skip, hjs, if_false] at hgj
    exact .inl ⟨j, o', k', ob, hj, hgj, hoj⟩
  · intro i b o k h1 h2
    obtain ⟨_, h2⟩ := hlv _ _ _ _ h2
    rw [h1] at h2; cases h2

theorem Post.touch {φ0 φ : Phi} {σ0 σ : AHeap} {w0 w : World} (h : Post P φ0 σ0 w0 φ σ w) {b : Nat} (hb : w0.heap.size ≤ b) {s : ByteArray} {pos : Nat} (hi : w.heap[b]? = some (.stringIter s pos)) (pos' : Nat) :
    Post P φ0 σ0 w0 φ σ (touch w b (.stringIter s pos')) := by
  have hne : ∀ i b' o k, φ i = .live b' o k → b' ≠ b := by
    intro i b' o k hl e
    obtain ⟨obj, c, e', fr, _, h2, _⟩ := h.rel.live i b' o k hl
    rw [e, hi] at h2
    cases h2
  refine ⟨h.size, h.le, h.abs, ⟨h.rel.bnd, h.rel.dead, ?_, h.rel.excl⟩, h.own, h.new, ?_, by rw [touch_size]; exact h.grow, h.env⟩
  · intro i b' o k hl
    obtain ⟨obj, c, e', fr, h1, h2, h3⟩ := h.rel.live i b' o k hl
    exact ⟨obj, c, e', fr, h1, by rw [touch_get _ _ _ _ (hne i b' o k hl)]; exact h2, h3⟩
  · intro b' hb' hn
    rw [touch_get _ _ _ _ (by omega)]
    exact h.keep b' hb' hn

/-- A block that nobody of the relation owns. -/
theorem Post.free {φ0 φ : Phi} {σ0 σ : AHeap} {w0 w : World} (h : Post P φ0 σ0 w0 φ σ w) {b : Nat} (hb : b < w0.heap.size) (hn : ¬ Owned φ0 σ0 b) : ¬ Owned φ σ b := by
  intro ho
  rcases h.own b ho with h' | h'
  · exact hn h'
  · omega

theorem owned_iter {φ : Phi} {σ : AHeap} {w : World} (h : R P φ σ w) {b : Nat} {s : ByteArray} {pos : Nat} (hi : w.heap[b]? = some (.stringIter s pos)) : ¬ Owned φ σ b := by
  rintro ⟨i, o, k, obj, hl, _, _⟩
  obtain ⟨_, c, e', fr, _, h2, _⟩ := h.live i b o k hl
  rw [hi] at h2
  cases h2

theorem compC_seq {nt : Nat} {x y : Code} {ac : ACode} (h : compC P nt (.seq x y) = some ac) :
    (∃ ax ay, compC P nt x = some ax ∧ compC P nt y = some ay ∧ ac = .seq ax ay) ∨
    (∃ i ops k j nx c pre xo t7 t8 post az, x = .region i ops false ∧ y = .block k (.loop (.seq (.region j nx false) c)) ∧ asRange P nt ops = some (pre, xo, t7) ∧ asNext P nt t7 nx = some (t8, post) ∧
      compC P nt c = some az ∧ ac = .strRange pre xo t7 t8 k post az) := by
  by_cases hp : ∃ i ops k j nx c, x = .region i ops false ∧ y = .block k (.loop (.seq (.region j nx false) c))
  · obtain ⟨i, ops, k, j, nx, c, rfl, rfl⟩ := hp
    rw [compC] at h
    split at h
    · rename_i pre xo t7 hr
      split at h
      · rename_i t8 post z hn hz
        cases h
        exact .inr ⟨i, ops, k, j, nx, c, pre, xo, t7, t8, post, z, rfl, rfl, hr, hn, hz, rfl⟩
      · cases h
    · split at h
      · rename_i x' y' hx hy
        cases h
        exact .inl ⟨x', y', hx, hy, rfl⟩
      · cases h
  · rw [compC] at h
    · split at h
      · rename_i ax ay hx hy
        cases h
        exact .inl ⟨ax, ay, hx, hy, rfl⟩
      · cases h
    · intro i ops k j nx c e1 e2
      exact hp ⟨i, ops, k, j, nx, c, e1, e2⟩

theorem asRange_spec {nt : Nat} {ops : Array Oper} {pre : List AOper} {x : Operand} {t7 : Tmp} (h : asRange P nt ops = some (pre, x, t7)) :
    ∃ o t, ops[ops.size - 1]? = some o ∧ o.dst = some t7 ∧ o.op = .range t x ∧ o.guard = none ∧ P.underlying t = some .string ∧ compOpers P ops.toList nt (ops.toList.take (ops.size - 1)) = some pre ∧ okOpd x = true ∧ t7 < nt := by
  unfold asRange at h
  split at h
  · rename_i d t x' ty ps af ho
    split at h
    · rename_i pre' hu hc
      split at h
      · rename_i hb
        cases h
        simp only [Bool.and_eq_true, Nat.blt_eq] at hb
        exact ⟨_, t, ho, rfl, rfl, rfl, hu, hc, hb.1, hb.2⟩
      · cases h
    · cases h
  · cases h

theorem asNext_spec {nt : Nat} {nx : Array Oper} {t7 t8 : Tmp} {post : List AOper} (h : asNext P nt t7 nx = some (t8, post)) :
    ∃ o, nx[(0 : Nat)]? = some o ∧ o.dst = some t8 ∧ o.op = .next (.tmp t7) true ∧ o.guard = none ∧ compOpers P nx.toList nt (nx.toList.drop 1) = some post ∧ t8 < nt := by
  unfold asNext at h
  split at h
  · rename_i d t ty ps af ho
    split at h
    · rename_i post' hc
      split at h
      · rename_i hb
        cases h
        simp only [Bool.and_eq_true, Nat.blt_eq] at hb
        have : t = t7 := Nat.eq_of_beq_eq_true hb.1
        subst this
        exact ⟨_, ho, rfl, rfl, rfl, hc, hb.2⟩
      · cases h
    · cases h
  · cases h
end Go.Ax
