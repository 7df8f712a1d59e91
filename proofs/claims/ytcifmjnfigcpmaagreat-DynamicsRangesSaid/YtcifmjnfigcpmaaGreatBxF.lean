/-
  BX: a loop over a string's code points.
-/
import Derived.Test.YtcifmjnfigcpmaaGreatBxE
import Derived.Laws.RangeString
import Derived.ChangeSame
import Derived.ChangeBears
import Derived.ReadAgain
import Derived.JoinedOf
import Derived.SizedLaws
import Derived.OpenShut
import Derived.RowKit
set_option linter.unusedSimpArgs false
set_option linter.unusedVariables false
set_option linter.unusedSectionVars false
namespace Go.Bx
variable {P : Program}

def touch (w : World) (b : Nat) (o : Obj) : World := { w with heap := w.heap.setIfInBounds b o }

theorem touch_get (w : World) (b : Nat) (o : Obj) (i : Nat) (h : i ≠ b) : (touch w b o).heap[i]? = w.heap[i]? := by
  simp [touch, Array.getElem?_setIfInBounds, Ne.symm h]
theorem touch_self {w : World} {b : Nat} {o o' : Obj} (h : w.heap[b]? = some o') : (touch w b o).heap[b]? = some o := by
  have : b < w.heap.size := (Array.getElem?_eq_some_iff.1 h).1
  simp [touch, this]
theorem touch_size (w : World) (b : Nat) (o : Obj) : (touch w b o).heap.size = w.heap.size := by simp [touch]

theorem run_next {w : World} {b : Nat} {s : ByteArray} {pos : Nat} (h : w.heap[b]? = some (.stringIter s pos)) (ty : TypeId) :
    (Instr.next (.pointer (some ⟨b, 0, none⟩)) true ty).run P w = (if pos < s.size then
      .ok (.tuple #[.bool true, .int .i64 pos, .int .i32 (Utf8.decode s pos).1]) (touch w b (.stringIter s (pos + (Utf8.decode s pos).2))) else .ok (.tuple #[.bool false]) w) := by
  by_cases hp : pos < s.size
  · simp [Instr.next, getObj, setObj, Sem.run_bind, Sem.run, h, Result.andThen, hp, goInt, touch]
  · simp [Instr.next, getObj, Sem.run, h, hp]

theorem R.skip {φ : Phi} {σ : AHeap} {w : World} (h : R P φ σ w) (s : ByteArray) : Post P φ σ w (φ.set σ.size (.dead (some w.heap.size))) σ.skip (w.iter s 0) := by
  have hab : φ σ.size = .absent := h.bnd _ (Nat.le_refl _)
  have hle : Le φ (φ.set σ.size (.dead (some w.heap.size))) := by
    refine ⟨fun i hi => ?_, FLe.refl _⟩
    have : i ≠ σ.size := fun e => hi (e ▸ hab)
    exact .inl (by simp [Phi.set, this])
  have hold : ∀ b, b < w.heap.size → (w.iter s 0).heap[b]? = w.heap[b]? := fun b hb => heap_alloc_old w _ b hb
  have hlv : ∀ i b o k, (φ.set σ.size (.dead (some w.heap.size))) i = .live b o k → i ≠ σ.size ∧ φ i = .live b o k := by
    intro i b o k hi
    by_cases hs : i = σ.size
    · subst hs; simp [Phi.set] at hi
    · simp only [Phi.set, hs, if_false] at hi; exact ⟨hs, hi⟩
  refine ⟨by rw [AHeap.size_skip]; omega, hle, ?_, ⟨?_, ?_, ?_, ?_, fun b c hb => ?_, ?_⟩, ?_, ?_, fun b hb _ => hold b hb, by simp [World.iter], ⟨rfl, rfl, rfl⟩, fun _ _ h => .inl h⟩
  rotate_left 5
  · obtain ⟨e, fr, he⟩ := h.froz b c hb
    exact ⟨e, fr, by rw [hold b (Array.getElem?_eq_some_iff.1 he).1]; exact he⟩
  · intro i b o k obj hi hg ho
    obtain ⟨hs, hi⟩ := hlv i b o k hi
    simp only [AHeap.get_skip, hs, if_false] at hg
    exact h.nofz i b o k obj hi hg ho
  rotate_left 2
  · intro i hi ha
    have : i ≠ σ.size := by omega
    exact ⟨by simp [Phi.set, this, ha], by simp [AHeap.get_skip, this]⟩
  · intro i hi
    rw [AHeap.size_skip] at hi
    have : i ≠ σ.size := by omega
    simp only [Phi.set, this, if_false]
    exact h.bnd i (by omega)
  · intro i p hi
    by_cases hs : i = σ.size
    · subst hs; simp [AHeap.get_skip]
    · simp only [Phi.set, hs, if_false] at hi
      simp [AHeap.get_skip, hs, h.dead i p hi]
  · intro i b o k hi
    obtain ⟨hs, hi⟩ := hlv i b o k hi
    obtain ⟨obj, c, e, fr, hg, hb, hcells, hall⟩ := h.live i b o k hi
    refine ⟨obj, c, e, fr, by simp [AHeap.get_skip, hs, hg], by rw [hold b (h.blk_lt hi)]; exact hb, ?_, hall⟩
    intro l v hl
    obtain ⟨ho, v', hv', hrel⟩ := hcells l v hl
    exact ⟨ho, v', hv', hrel.mono hle⟩
  · intro j l b1 o1 k1 b2 o2 k2 ob hj hl hgj hoj hne
    obtain ⟨hjs, hj⟩ := hlv _ _ _ _ hj
    obtain ⟨hls, hl⟩ := hlv _ _ _ _ hl
    simp only [AHeap.get_skip, hjs, if_false] at hgj
    exact h.excl j l b1 o1 k1 b2 o2 k2 ob hj hl hgj hoj hne
  · rintro b' ⟨j, o', k', ob, hj, hgj, hoj⟩
    obtain ⟨hjs, hj⟩ := hlv _ _ _ _ hj
    simp only [AHeap.get_skip, hjs, if_false] at hgj
    exact .inl ⟨j, o', k', ob, hj, hgj, hoj⟩
  · intro i b o k h1 h2
    obtain ⟨_, h2⟩ := hlv _ _ _ _ h2
    rw [h1] at h2; cases h2

theorem Post.touch {φ0 φ : Phi} {σ0 σ : AHeap} {w0 w : World} (h : Post P φ0 σ0 w0 φ σ w) {b : Nat} (hb : w0.heap.size ≤ b) {s : ByteArray} {pos : Nat} (hi : w.heap[b]? = some (.stringIter s pos)) (pos' : Nat) :
    Post P φ0 σ0 w0 φ σ (touch w b (.stringIter s pos')) := by
  have hne : ∀ i b' o k, φ i = .live b' o k → b' ≠ b := by
    intro i b' o k hl e
    obtain ⟨obj, c, e', fr, _, h2, _⟩ := h.rel.live i b' o k hl
    rw [e, hi] at h2
    cases h2
  refine ⟨h.size, h.le, h.abs, ⟨h.rel.bnd, h.rel.dead, ?_, h.rel.excl, fun b' c hb' => ?_, h.rel.nofz⟩, h.own, h.new, ?_, by rw [touch_size]; exact h.grow, h.env, h.fz⟩
  rotate_left 1
  · obtain ⟨e, fr, he⟩ := h.rel.froz b' c hb'
    have : b' ≠ b := fun e' => by rw [e', hi] at he; cases he
    exact ⟨e, fr, by rw [touch_get _ _ _ _ this]; exact he⟩
  rotate_left 1
  · intro i b' o k hl
    obtain ⟨obj, c, e', fr, h1, h2, h3⟩ := h.rel.live i b' o k hl
    exact ⟨obj, c, e', fr, h1, by rw [touch_get _ _ _ _ (hne i b' o k hl)]; exact h2, h3⟩
  · intro b' hb' hn
    rw [touch_get _ _ _ _ (by omega)]
    exact h.keep b' hb' hn

/-- A block that nobody of the relation owns. -/
theorem Post.free {φ0 φ : Phi} {σ0 σ : AHeap} {w0 w : World} (h : Post P φ0 σ0 w0 φ σ w) {b : Nat} (hb : b < w0.heap.size) (hn : ¬ Owned φ0 σ0 b) : ¬ Owned φ σ b := by
  intro ho
  rcases h.own b ho with h' | h'
  · exact hn h'
  · omega

theorem owned_iter {φ : Phi} {σ : AHeap} {w : World} (h : R P φ σ w) {b : Nat} {s : ByteArray} {pos : Nat} (hi : w.heap[b]? = some (.stringIter s pos)) : ¬ Owned φ σ b := by
  rintro ⟨i, o, k, obj, hl, _, _⟩
  obtain ⟨_, c, e', fr, _, h2, _⟩ := h.live i b o k hl
  rw [hi] at h2
  cases h2

theorem compC_seq {nt : Nat} {x y : Code} {ac : ACode} (h : compC P nt (.seq x y) = some ac) :
    (∃ ax ay, compC P nt x = some ax ∧ compC P nt y = some ay ∧ ac = .seq ax ay) ∨
    (∃ i ops k j nx c pre xo t7 t8 post az, x = .region i ops false ∧ y = .block k (.loop (.seq (.region j nx false) c)) ∧ asRange P nt ops = some (pre, xo, t7) ∧ asNext P nt t7 nx = some (t8, post) ∧
      compC P nt c = some az ∧ ac = .strRange pre xo t7 t8 k post az) := by
  by_cases hp : ∃ i ops k j nx c, x = .region i ops false ∧ y = .block k (.loop (.seq (.region j nx false) c))
  · obtain ⟨i, ops, k, j, nx, c, rfl, rfl⟩ := hp
    rw [compC] at h
    split at h
    · rename_i pre xo t7 hr
      split at h
      · rename_i t8 post z hn hz
        cases h
        exact .inr ⟨i, ops, k, j, nx, c, pre, xo, t7, t8, post, z, rfl, rfl, hr, hn, hz, rfl⟩
      · cases h
    · split at h
      · rename_i x' y' hx hy
        cases h
        exact .inl ⟨x', y', hx, hy, rfl⟩
      · cases h
  · rw [compC] at h
    · split at h
      · rename_i ax ay hx hy
        cases h
        exact .inl ⟨ax, ay, hx, hy, rfl⟩
      · cases h
    · intro i ops k j nx c e1 e2
      exact hp ⟨i, ops, k, j, nx, c, e1, e2⟩

theorem asRange_spec {nt : Nat} {ops : Array Oper} {pre : List AOper} {x : Operand} {t7 : Tmp} (h : asRange P nt ops = some (pre, x, t7)) :
    ∃ o t, ops[ops.size - 1]? = some o ∧ o.dst = some t7 ∧ o.op = .range t x ∧ o.guard = none ∧ P.underlying t = some .string ∧ compOpers P ops.toList nt (ops.toList.take (ops.size - 1)) = some pre ∧ okOpd x = true ∧ t7 < nt := by
  unfold asRange at h
  split at h
  · rename_i d t x' ty ps af ho
    split at h
    · rename_i pre' hu hc
      split at h
      · rename_i hb
        cases h
        simp only [Bool.and_eq_true, Nat.blt_eq] at hb
        exact ⟨_, t, ho, rfl, rfl, rfl, hu, hc, hb.1, hb.2⟩
      · cases h
    · cases h
  · cases h

theorem asNext_spec {nt : Nat} {nx : Array Oper} {t7 t8 : Tmp} {post : List AOper} (h : asNext P nt t7 nx = some (t8, post)) :
    ∃ o, nx[(0 : Nat)]? = some o ∧ o.dst = some t8 ∧ o.op = .next (.tmp t7) true ∧ o.guard = none ∧ compOpers P nx.toList nt (nx.toList.drop 1) = some post ∧ t8 < nt := by
  unfold asNext at h
  split at h
  · rename_i d t ty ps af ho
    split at h
    · rename_i post' hc
      split at h
      · rename_i hb
        cases h
        simp only [Bool.and_eq_true, Nat.blt_eq] at hb
        have : t = t7 := Nat.eq_of_beq_eq_true hb.1
        subst this
        exact ⟨_, ho, rfl, rfl, rfl, hc, hb.2⟩
      · cases h
    · cases h
  · cases h
end Go.Bx

namespace Go.Bx
variable {P : Program}

def AExit.to : AExit → Exit
  | .normal => .normal
  | .exit i => .exit i
  | .ret => .ret

/-- What holds at the end. -/
def CQ (P : Program) (φ : Phi) (σ : AHeap) (w : World) (nt : Nat) (D : List Deferred) (e : AExit) (τ' : Tmps) (σ' : AHeap) (Q : Exit → Act → World → Prop) : Prop :=
  ∀ φ' a' w', Post P φ σ w φ' σ' w' → TRel φ' τ' a'.tmps → nt ≤ a'.tmps.size → a'.defers = D → Q e.to a' w'

theorem CQ.after {φ φ1 : Phi} {σ σ1 : AHeap} {w w1 : World} {nt : Nat} {D : List Deferred} {e : AExit} {τ' : Tmps} {σ' : AHeap} {Q : Exit → Act → World → Prop} (h : CQ P φ σ w nt D e τ' σ' Q) (hp : Post P φ σ w φ1 σ1 w1) : CQ P φ1 σ1 w1 nt D e τ' σ' Q :=
  fun φ' a' w' hp' => h φ' a' w' (hp.trans hp')

/-- The operation that begins to range over a string. -/
theorem range_wp {o : Oper} {t : TypeId} {x : Operand} {s : ByteArray} {a : Act} {w : World} (ho : o.op = .range t x) (hu : P.underlying t = some .string) (hx : a.eval x = .string s)
    {next : Act → World → Prop} {Q : Exit → Act → World → Prop} (hn : next (a.put o.dst (.pointer (some ⟨w.heap.size, 0, none⟩))) (w.iter s 0)) : o.wp P a w next Q := by
  unfold Oper.wp
  have : (execOp a.eval o).run P w = .ok (.value (.pointer (some ⟨w.heap.size, 0, none⟩))) (w.iter s 0) := by
    unfold execOp
    rw [ho]
    simp only [hx]
    simp [Sem.run_bind, Sem.run_map, run_range_string w t s hu, Result.andThen]
  rw [this]
  exact hn

theorem next_wp {o : Oper} {x : Operand} {b : Nat} {s : ByteArray} {pos : Nat} {a : Act} {w : World} (ho : o.op = .next x true) (hx : a.eval x = .pointer (some ⟨b, 0, none⟩)) (hb : w.heap[b]? = some (.stringIter s pos))
    {next : Act → World → Prop} {Q : Exit → Act → World → Prop}
    (h1 : pos < s.size → next (a.put o.dst (.tuple #[.bool true, .int .i64 pos, .int .i32 (Utf8.decode s pos).1])) (touch w b (.stringIter s (pos + (Utf8.decode s pos).2))))
    (h2 : ¬ pos < s.size → next (a.put o.dst (.tuple #[.bool false])) w) : o.wp P a w next Q := by
  unfold Oper.wp
  have : (execOp a.eval o).run P w = (if pos < s.size then .ok (.value (.tuple #[.bool true, .int .i64 pos, .int .i32 (Utf8.decode s pos).1])) (touch w b (.stringIter s (pos + (Utf8.decode s pos).2))) else .ok (.value (.tuple #[.bool false])) w) := by
    unfold execOp
    rw [ho]
    simp only [hx]
    by_cases hp : pos < s.size <;> simp [Sem.run_bind, Sem.run_map, run_next hb, hp, Result.andThen]
  rw [this]
  by_cases hp : pos < s.size
  · rw [if_pos hp]; exact h1 hp
  · rw [if_neg hp]; exact h2 hp

theorem range_last {n : Nat} (h : 0 < n) : List.range n = List.range' 0 (n - 1) ++ [n - 1] := by
  obtain ⟨m, rfl⟩ : ∃ m, n = m + 1 := ⟨n - 1, by omega⟩
  rw [List.range_succ, List.range_eq_range']
  rfl

theorem dead_keeps {φ φ' : Phi} (h : Le φ φ') {id b : Nat} (hd : φ id = .dead (some b)) : φ' id = .dead (some b) := by
  rcases h id (by rw [hd]; simp) with e | ⟨_, u⟩
  · rw [e, hd]
  · exact absurd hd (u b)

/-- What a piece of code is known to do. -/
def SndC (P : Program) (cf : CallF) (nt n : Nat) (c : Code) (ac : ACode) : Prop := ∀ (τ : Tmps) (σ : AHeap) (e : AExit) (τ' : Tmps) (σ' : AHeap), evalC cf n ac τ σ = some (e, τ', σ') →
    ∀ (φ : Phi) (a : Act) (w : World), R P φ σ w → TRel φ τ a.tmps → nt ≤ a.tmps.size → ∀ (Q : Exit → Act → World → Prop), CQ P φ σ w nt a.defers e τ' σ' Q → c.wp P Q a w

theorem strLoop_sound {cf : CallF} (hcf : SndF P cf) {nt n : Nat} {c : Code} {ac : ACode} (ih : SndC P cf nt n c ac) {j : Nat} {nx : Array Oper} {t7 t8 : Tmp} {post : List AOper} (hn : asNext P nt t7 nx = some (t8, post))
    {s : ByteArray} {id b : Nat} {φs : Phi} {σs : AHeap} {ws : World} (hb : ws.heap.size ≤ b) {D : List Deferred} {Q : Exit → Act → World → Prop} : ∀ (m pos : Nat) (τ : Tmps) (σ : AHeap) (e : AExit) (τ' : Tmps) (σ' : AHeap),
    strLoop s id t7 t8 (fun τ σ => match evalOps cf post τ σ with | some (τ', σ') => evalC cf n ac τ' σ' | none => none) m pos τ σ = some (e, τ', σ') →
    ∀ (φ : Phi) (a : Act) (w : World), Post P φs σs ws φ σ w → TRel φ τ a.tmps → nt ≤ a.tmps.size → a.defers = D → φ id = .dead (some b) → w.heap[b]? = some (.stringIter s pos) →
    (∀ φ' a' w', Post P φs σs ws φ' σ' w' → TRel φ' τ' a'.tmps → nt ≤ a'.tmps.size → a'.defers = D → e ≠ .normal → Q e.to a' w') →
    Code.rounds P (.seq (.region j nx false) c) Q m a w := by
  obtain ⟨o, hget, hdst, hop, hg, hco, h8⟩ := asNext_spec hn
  have hnx : 0 < nx.size := (Array.getElem?_eq_some_iff.1 hget).1
  intro m
  induction m with
  | zero => intro pos τ σ e τ' σ' h; simp [strLoop] at h
  | succ m ihm =>
    intro pos τ σ e τ' σ' h φ a w hP hT hs hD hdead hheap hQ
    simp only [strLoop] at h
    split at h
    rotate_left
    · cases h
    rename_i ad hat
    rw [Bool.cond_eq_ite] at h
    split at h
    rotate_left
    · cases h
    rename_i hids
    simp only [Bool.and_eq_true] at hids
    have hb1 : ad.block = id := Nat.eq_of_beq_eq_true hids.1
    have hb2 : ad.off = 0 := Nat.eq_of_beq_eq_true hids.2
    have hev : a.eval (.tmp t7) = .pointer (some ⟨b, 0, none⟩) := by
      have hr := hT t7
      rw [hat] at hr
      show a.tmps.getD t7 undef = _
      generalize a.tmps.getD t7 undef = y at hr
      cases hr with
      | ptr ha =>
        unfold ARel at ha
        rw [hb1, hdead] at ha
        rw [ha b rfl, hb2]
    have hdd : ∀ d, o.dst = some d → d < a.tmps.size := fun d hd => by rw [hdst] at hd; cases hd; exact Nat.lt_of_lt_of_le h8 hs
    rw [rounds_succ]
    refine wp_seq (wp_region ?_)
    have hrange : List.range nx.size = 0 :: List.range' 1 (nx.size - 1) := by
      obtain ⟨k, hk⟩ : ∃ k, nx.size = k + 1 := ⟨nx.size - 1, by omega⟩
      rw [hk, List.range_eq_range', List.range'_succ]; simp
    rw [hrange]
    simp only [wpOps, hget]
    have hw : Region.wanted o (yielded nx a.tmps) = true := by unfold Region.wanted; rw [hg]
    rw [if_pos hw]
    refine .inl ?_
    -- what follows the taking of the next code point
    have go : ∀ (v : Value) (w2 : World), Post P φs σs ws φ σ w2 → VRel φ v v → (∀ p', w2.heap[b]? = some (.stringIter s p') →
        ∀ (e2 : AExit) (τ2 : Tmps) (σ2 : AHeap), (match evalOps cf post (τ.set t8 (some v)) σ with | some (τ', σ') => evalC cf n ac τ' σ' | none => none) = some (e2, τ2, σ2) →
        (∀ φ' a' w', Post P φs σs ws φ' σ2 w' → TRel φ' τ2 a'.tmps → nt ≤ a'.tmps.size → a'.defers = D → φ' id = .dead (some b) → w'.heap[b]? = some (.stringIter s p') →
          Exit.then (Code.rounds P (.seq (.region j nx false) c) Q m) Q e2.to a' w') →
        wpOps P nx (Exit.then (c.wp P (Exit.then (Code.rounds P (.seq (.region j nx false) c) Q m) Q)) (Exit.then (Code.rounds P (.seq (.region j nx false) c) Q m) Q)) (List.range' 1 (nx.size - 1)) (a.put o.dst v) w2) := by
      intro v w2 hP2 hv p' hh e2 τ2 σ2 hbody hQ2
      split at hbody
      · rename_i τa σa hev
        have hT2 : TRel φ (τ.set t8 (some v)) (a.put o.dst v).tmps := by
          have := hT.put (dst := o.dst) hv hdd
          rw [hdst] at this ⊢
          exact this
        refine evalOps_sound hcf (nx.size - 1) 1 (by omega) post hco _ σ τa σa hev φ _ w2 hP2.rel hT2 (by rw [put_size]; exact hs) ?_
        intro φ3 a3 w3 hp3 ht3 hs3 hd3
        refine ih τa σa e2 τ2 σ2 hbody φ3 a3 w3 hp3.rel ht3 hs3 _ ?_
        intro φ4 a4 w4 hp4 ht4 hs4 hd4
        have hp := hp3.trans hp4
        have hno := owned_iter hP2.rel hh
        have hlt : b < w2.heap.size := (Array.getElem?_eq_some_iff.1 hh).1
        exact hQ2 φ4 a4 w4 (hP2.trans hp) ht4 hs4 (by rw [hd4, hd3, put_defers', hD]) (dead_keeps hp.le hdead) (by rw [hp.keep b hlt hno]; exact hh)
      · cases hbody
    refine next_wp hop hev hheap (fun hp => ?_) (fun hp => ?_)
    · rw [Bool.cond_eq_ite, if_pos (by simpa [Nat.blt_eq] using hp)] at h
      have hP2 := hP.touch hb hheap (pos + (Utf8.decode s pos).2)
      have hh2 := touch_self (o := .stringIter s (pos + (Utf8.decode s pos).2)) hheap
      have hv : VRel φ (.tuple #[.bool true, .int .i64 pos, .int .i32 (Utf8.decode s pos).1]) (.tuple #[.bool true, .int .i64 pos, .int .i32 (Utf8.decode s pos).1]) :=
        .tuple (.cons (.bool _) (.cons (.int _ _) (.cons (.int _ _) .nil)))
      split at h
      · rename_i τ1 σ1 hbody
        refine go _ _ hP2 hv _ hh2 .normal τ1 σ1 hbody ?_
        intro φ' a' w' hp' ht' hs' hd' hde' hh'
        exact ihm _ τ1 σ1 e τ' σ' h φ' a' w' hp' ht' hs' hd' hde' hh' hQ
      · rename_i hne
        refine go _ _ hP2 hv _ hh2 e τ' σ' h ?_
        intro φ' a' w' hp' ht' hs' hd' hde' hh'
        have hen : e ≠ .normal := fun he => hne τ' σ' (by rw [← he]; exact h)
        have := hQ φ' a' w' hp' ht' hs' hd' hen
        cases e with
        | normal => exact absurd rfl hen
        | exit i => exact this
        | ret => exact this
    · rw [Bool.cond_eq_ite, if_neg (by simpa [Nat.blt_eq] using hp)] at h
      have hv : VRel φ (.tuple #[.bool false]) (.tuple #[.bool false]) := .tuple (.cons (.bool _) .nil)
      split at h
      · cases h
      · rename_i hne
        refine go _ _ hP hv _ hheap e τ' σ' h ?_
        intro φ' a' w' hp' ht' hs' hd' hde' hh'
        have hen : e ≠ .normal := fun he => hne τ' σ' (by rw [← he]; exact h)
        have := hQ φ' a' w' hp' ht' hs' hd' hen
        cases e with
        | normal => exact absurd rfl hen
        | exit i => exact this
        | ret => exact this

theorem strRange_sound {cf : CallF} (hcf : SndF P cf) {nt n : Nat} {c : Code} {ac : ACode} (ih : SndC P cf nt n c ac) {i j k : Nat} {ops nx : Array Oper} {pre post : List AOper} {x : Operand} {t7 t8 : Tmp}
    (hr : asRange P nt ops = some (pre, x, t7)) (hn : asNext P nt t7 nx = some (t8, post)) :
    SndC P cf nt n (.seq (.region i ops false) (.block k (.loop (.seq (.region j nx false) c)))) (.strRange pre x t7 t8 k post ac) := by
  intro τ σ e τ' σ' he φ a w hR hT hs Q hQ
  obtain ⟨o, t, hget, hdst, hop, hg, hu, hco, hok, h7⟩ := asRange_spec hr
  have hsz : 0 < ops.size := by have := (Array.getElem?_eq_some_iff.1 hget).1; omega
  simp only [evalC] at he
  split at he
  rotate_left
  · cases he
  rename_i τ1 σ1 hpre
  split at he
  rotate_left
  · cases he
  rename_i s hxs
  refine wp_seq (wp_region ?_)
  rw [range_last hsz]
  refine evalOps_tail hcf [ops.size - 1] (ops.size - 1) 0 (by omega) pre (by simpa using hco) τ σ τ1 σ1 hpre φ a w hR hT hs ?_
  intro φ1 a1 w1 hp1 ht1 hs1 hd1
  simp only [wpOps, hget]
  have hw : Region.wanted o (yielded ops a1.tmps) = true := by unfold Region.wanted; rw [hg]
  rw [if_pos hw]
  refine .inl ?_
  have hx := opd_rel ht1 x hok
  rw [hxs] at hx
  have hxe : a1.eval x = .string s := by
    generalize a1.eval x = y at hx
    cases hx; rfl
  refine range_wp hop hu hxe ?_
  show Code.wp P _ _ _ _
  have hsk := hp1.rel.skip s
  have ht2 : TRel (φ1.set σ1.size (.dead (some w1.heap.size))) (τ1.set t7 (some (.pointer (some ⟨σ1.size, 0, none⟩)))) (a1.put o.dst (.pointer (some ⟨w1.heap.size, 0, none⟩))).tmps := by
    have hv : VRel (φ1.set σ1.size (.dead (some w1.heap.size))) (.pointer (some ⟨σ1.size, 0, none⟩)) (.pointer (some ⟨w1.heap.size, 0, none⟩)) := by
      refine .ptr ?_
      unfold ARel
      simp [Phi.set]
    have := (ht1.mono hsk.le).put (dst := o.dst) hv (fun d hd => by rw [hdst] at hd; cases hd; exact Nat.lt_of_lt_of_le h7 hs1)
    rw [hdst] at this ⊢
    exact this
  refine wp_block (wp_loop_rounds n ?_)
  generalize hq : strLoop s σ1.size t7 t8 (fun τ σ => match evalOps cf post τ σ with | some (τ', σ') => evalC cf n ac τ' σ' | none => none) n 0 (τ1.set t7 (some (.pointer (some ⟨σ1.size, 0, none⟩)))) σ1.skip = q at he
  have hfin : ∀ e0 τ0 σ0, q = some (e0, τ0, σ0) → leave k (some (e0, τ0, σ0)) = some (e, τ', σ') →
      ∀ φ' a' w', Post P φ1 σ1 w1 φ' σ0 w' → TRel φ' τ0 a'.tmps → nt ≤ a'.tmps.size → a'.defers = a.defers → e0 ≠ .normal → Exit.inBlock k Q e0.to a' w' := by
    intro e0 τ0 σ0 _ hl φ' a' w' hp ht hsz' hd hne
    cases e0 with
    | normal => exact absurd rfl hne
    | ret =>
      simp only [leave, Option.some.injEq, Prod.mk.injEq] at hl
      obtain ⟨rfl, rfl, rfl⟩ := hl
      exact hQ φ' a' w' (hp1.trans hp) ht hsz' hd
    | exit l =>
      simp only [leave] at hl
      by_cases hlk : l = k
      · subst hlk
        simp only [Nat.beq_refl, cond_true, Option.some.injEq, Prod.mk.injEq] at hl
        obtain ⟨rfl, rfl, rfl⟩ := hl
        have := hQ φ' a' w' (hp1.trans hp) ht hsz' hd
        simpa [AExit.to, Exit.inBlock] using this
      · rw [beqF hlk] at hl
        simp only [cond_false, Option.some.injEq, Prod.mk.injEq] at hl
        obtain ⟨rfl, rfl, rfl⟩ := hl
        have := hQ φ' a' w' (hp1.trans hp) ht hsz' hd
        simpa [AExit.to, Exit.inBlock, hlk] using this
  cases q with
  | none => simp [leave] at he
  | some r =>
    obtain ⟨e0, τ0, σ0⟩ := r
    refine strLoop_sound hcf ih hn (b := w1.heap.size) (Nat.le_refl _) n 0 _ _ e0 τ0 σ0 hq _ _ _ hsk ht2 (by rw [put_size]; exact hs1) (by rw [put_defers', hd1]) (by simp [Phi.set]) (World.iter_heap w1 s 0) ?_
    exact hfin e0 τ0 σ0 rfl he

theorem evalC_sound {cf : CallF} (hcf : SndF P cf) (hm : P.follows .mixedOrders = true) (nt n : Nat) : ∀ (c : Code) (ac : ACode), compC P nt c = some ac → ∀ (τ : Tmps) (σ : AHeap) (e : AExit) (τ' : Tmps) (σ' : AHeap), evalC cf n ac τ σ = some (e, τ', σ') →
    ∀ (φ : Phi) (a : Act) (w : World), R P φ σ w → TRel φ τ a.tmps → nt ≤ a.tmps.size → ∀ (Q : Exit → Act → World → Prop), CQ P φ σ w nt a.defers e τ' σ' Q → c.wp P Q a w := by
  intro (c : Code)
  generalize hsize : SizeOf.sizeOf c = N
  induction N using Nat.strongRecOn generalizing c with
  | ind N IH =>
  subst hsize
  cases c with
  | skip =>
    intro ac hc τ σ e τ' σ' he φ a w hR hT hs Q hQ
    simp only [compC, Option.some.injEq] at hc; subst hc
    simp only [evalC, Option.some.injEq, Prod.mk.injEq] at he
    obtain ⟨rfl, rfl, rfl⟩ := he
    exact wp_skip (hQ φ a w (.refl hR) hT hs rfl)
  | label l =>
    intro ac hc τ σ e τ' σ' he φ a w hR hT hs Q hQ
    simp only [compC, Option.some.injEq] at hc; subst hc
    simp only [evalC, Option.some.injEq, Prod.mk.injEq] at he
    obtain ⟨rfl, rfl, rfl⟩ := he
    exact wp_label (hQ φ a w (.refl hR) hT hs rfl)
  | exit id =>
    intro ac hc τ σ e τ' σ' he φ a w hR hT hs Q hQ
    simp only [compC, Option.some.injEq] at hc; subst hc
    simp only [evalC, Option.some.injEq, Prod.mk.injEq] at he
    obtain ⟨rfl, rfl, rfl⟩ := he
    exact wp_exit (hQ φ a w (.refl hR) hT hs rfl)
  | ret =>
    intro ac hc τ σ e τ' σ' he φ a w hR hT hs Q hQ
    simp only [compC, Option.some.injEq] at hc; subst hc
    simp only [evalC, Option.some.injEq, Prod.mk.injEq] at he
    obtain ⟨rfl, rfl, rfl⟩ := he
    exact wp_ret (hQ φ a w (.refl hR) hT hs rfl)
  | region id ops draw =>
    intro ac hc τ σ e τ' σ' he φ a w hR hT hs Q hQ
    cases draw with
    | true =>
      exact dregion_sound hcf hm hc he hR hT hs (fun φ' a' w' hp ht hsz hdf hn => by have := hQ φ' a' w' hp ht hsz hdf; rw [hn] at this; exact this)
    | false =>
      simp only [compC] at hc
      split at hc
      rotate_left
      · cases hc; simp [evalC] at he
      rename_i cs hcs
      cases hc
      simp only [evalC] at he
      split at he
      · rename_i τ1 σ1 hev
        simp only [Option.some.injEq, Prod.mk.injEq] at he
        obtain ⟨rfl, rfl, rfl⟩ := he
        refine wp_region ?_
        rw [List.range_eq_range']
        exact evalOps_sound hcf ops.size 0 (by omega) cs (by simpa using hcs) τ σ _ _ hev φ a w hR hT hs (fun φ' a' w' hp ht hsz hdf => hQ φ' a' w' hp ht hsz hdf)
      · cases he
  | seq x y =>
    have ihx := IH (SizeOf.sizeOf x) (by simp; omega) x rfl
    have ihy := IH (SizeOf.sizeOf y) (by simp; omega) y rfl
    intro ac hc τ σ e τ' σ' he φ a w hR hT hs Q hQ
    rcases compC_seq hc with ⟨ax, ay, hx, hy, rfl⟩ | ⟨i, ops, k, j, nx, c, pre, xo, t7, t8, post, az, rfl, rfl, hr, hn, hz, rfl⟩
    ·
      simp only [evalC] at he
      refine wp_seq ?_
      split at he
      · rename_i τ1 σ1 he1
        refine ihx ax hx τ σ _ _ _ he1 φ a w hR hT hs _ ?_
        intro φ1 a1 w1 hp1 ht1 hs1 hd1
        exact ihy ay hy τ1 σ1 e τ' σ' he φ1 a1 w1 hp1.rel ht1 hs1 Q (by rw [hd1]; exact hQ.after hp1)
      · rename_i hne
        refine ihx ax hx τ σ e τ' σ' he φ a w hR hT hs _ ?_
        intro φ1 a1 w1 hp1 ht1 hs1 hd1
        have := hQ φ1 a1 w1 hp1 ht1 hs1 hd1
        cases e with
        | normal => exact absurd he (hne τ' σ')
        | exit i => exact this
        | ret => exact this
    · exact strRange_sound hcf (IH (SizeOf.sizeOf c) (by simp; omega) c rfl az hz) hr hn τ σ e τ' σ' he φ a w hR hT hs Q hQ
  | cond c x y =>
    have ihx := IH (SizeOf.sizeOf x) (by simp; omega) x rfl
    have ihy := IH (SizeOf.sizeOf y) (by simp; omega) y rfl
    intro ac hc τ σ e τ' σ' he φ a w hR hT hs Q hQ
    simp only [compC] at hc
    split at hc
    · rename_i ax ay hx hy
      split at hc
      · rename_i hok
        cases hc
        have hr := opd_rel hT c hok
        simp only [evalC] at he
        split at he
        · rename_i hb
          rw [hb] at hr
          generalize hq : a.eval c = q at hr
          cases hr
          exact wp_cond_true hq (ihx ax hx τ σ e τ' σ' he φ a w hR hT hs Q hQ)
        · rename_i hb
          rw [hb] at hr
          generalize hq : a.eval c = q at hr
          cases hr
          exact wp_cond_false hq (ihy ay hy τ σ e τ' σ' he φ a w hR hT hs Q hQ)
        · cases he
      · cases hc
    · cases hc
  | block id c =>
    have ih := IH (SizeOf.sizeOf c) (by simp; try omega) c rfl
    intro ac hc τ σ e τ' σ' he φ a w hR hT hs Q hQ
    simp only [compC, Option.map_eq_some_iff] at hc
    obtain ⟨ax, hx, rfl⟩ := hc
    simp only [evalC] at he
    refine wp_block ?_
    split at he
    · rename_i j τ1 σ1 he1
      refine ih ax hx τ σ _ _ _ he1 φ a w hR hT hs _ ?_
      intro φ1 a1 w1 hp1 ht1 hs1 hd1
      by_cases hj : j = id
      · subst hj
        simp only [Nat.beq_refl, cond_true, Option.some.injEq, Prod.mk.injEq] at he
        obtain ⟨rfl, rfl, rfl⟩ := he
        have := hQ φ1 a1 w1 hp1 ht1 hs1 hd1
        simpa [AExit.to, Exit.inBlock] using this
      · rw [beqF hj] at he
        simp only [cond_false, Option.some.injEq, Prod.mk.injEq] at he
        obtain ⟨rfl, rfl, rfl⟩ := he
        have := hQ φ1 a1 w1 hp1 ht1 hs1 hd1
        simpa [AExit.to, Exit.inBlock, hj] using this
    · rename_i hne
      refine ih ax hx τ σ e τ' σ' he φ a w hR hT hs _ ?_
      intro φ1 a1 w1 hp1 ht1 hs1 hd1
      have := hQ φ1 a1 w1 hp1 ht1 hs1 hd1
      cases e with
      | normal => exact this
      | exit i => exact absurd he (hne i τ' σ')
      | ret => exact this
  | loop c =>
    have ih := IH (SizeOf.sizeOf c) (by simp; try omega) c rfl
    intro ac hc τ σ e τ' σ' he φ a w hR hT hs Q hQ
    simp only [compC, Option.map_eq_some_iff] at hc
    obtain ⟨ax, hx, rfl⟩ := hc
    simp only [evalC] at he
    refine wp_loop_rounds n ?_
    have key : ∀ (m : Nat) (τ : Tmps) (σ : AHeap), loopN m (evalC cf n ax) τ σ = some (e, τ', σ') → ∀ (φ : Phi) (a : Act) (w : World), R P φ σ w → TRel φ τ a.tmps → nt ≤ a.tmps.size → CQ P φ σ w nt a.defers e τ' σ' Q → Code.rounds P c Q m a w := by
      intro m
      induction m with
      | zero => intro τ σ he; simp [loopN] at he
      | succ m ihm =>
        intro τ σ he φ a w hR hT hs hQ
        rw [rounds_succ]
        simp only [loopN] at he
        split at he
        · rename_i τ1 σ1 he1
          refine ih ax hx τ σ _ _ _ he1 φ a w hR hT hs _ ?_
          intro φ1 a1 w1 hp1 ht1 hs1 hd1
          exact ihm τ1 σ1 he φ1 a1 w1 hp1.rel ht1 hs1 (by rw [hd1]; exact hQ.after hp1)
        · rename_i hne
          refine ih ax hx τ σ e τ' σ' he φ a w hR hT hs _ ?_
          intro φ1 a1 w1 hp1 ht1 hs1 hd1
          have := hQ φ1 a1 w1 hp1 ht1 hs1 hd1
          cases e with
          | normal => exact absurd he (hne τ' σ')
          | exit i => exact this
          | ret => exact this
    exact key n τ σ he φ a w hR hT hs hQ
  | scope c =>
    have ih := IH (SizeOf.sizeOf c) (by simp; try omega) c rfl
    intro ac hc τ σ e τ' σ' he φ a w hR hT hs Q hQ
    simp only [compC] at hc
    refine wp_scope_straight ?_
    refine ih ac hc τ σ e τ' σ' he φ a w hR hT hs _ ?_
    intro φ1 a1 w1 hp1 ht1 hs1 hd1
    have := hQ φ1 a1 w1 hp1 ht1 hs1 hd1
    cases e <;> exact this
  | goto l => intro ac hc τ σ e τ' σ' he; simp only [compC, Option.some.injEq] at hc; subst hc; simp [evalC] at he
  | rangeFunc f ps x y => intro ac hc τ σ e τ' σ' he; simp only [compC, Option.some.injEq] at hc; subst hc; simp [evalC] at he
  | refuse s => intro ac hc τ σ e τ' σ' he; simp only [compC, Option.some.injEq] at hc; subst hc; simp [evalC] at he

/-! ### Functions -/

theorem ofArgs_at : ∀ (l : List Value) (i : Nat) (τ : Tmps) (t : Nat), (ofArgs i l τ).at t = if i ≤ t ∧ t < i + l.length then l.getD (t - i) undef else τ.at t
  | [], i, τ, t => by simp [ofArgs]; omega
  | v :: l, i, τ, t => by
    rw [ofArgs, ofArgs_at l (i + 1) _ t, at_set]
    by_cases h1 : t = i
    · subst h1; simp; omega
    · by_cases h2 : i + 1 ≤ t ∧ t < i + 1 + l.length
      · have h3 : i ≤ t ∧ t < i + (v :: l).length := by simp; omega
        rw [if_pos h2, if_pos h3]
        obtain ⟨k, rfl⟩ : ∃ k, t = i + (k + 1) := ⟨t - i - 1, by omega⟩
        have e1 : i + (k + 1) - (i + 1) = k := by omega
        have e2 : i + (k + 1) - i = k + 1 := by omega
        rw [e1, e2]
        simp
      · have h3 : ¬ (i ≤ t ∧ t < i + (v :: l).length) := by simp; omega
        rw [if_neg h2, if_neg h3, if_neg h1]

theorem args_rel {φ : Phi} {args args' : List Value} (h : VsRel φ args args') (nt : Nat) : TRel φ (ofArgs 0 args .nil) (args'.toArray ++ Array.replicate (nt - args'.toArray.size) undef) := by
  intro t
  rw [ofArgs_at]
  have hl := h.length
  by_cases ht : t < args.length
  · rw [if_pos ⟨Nat.zero_le _, by omega⟩, Nat.sub_zero]
    obtain ⟨v', hv', hr⟩ := h.get t _ (List.getElem?_eq_getElem ht)
    have e1 : args.getD t undef = args[t] := by simp [List.getD, ht]
    have e2 : (args'.toArray ++ Array.replicate (nt - args'.toArray.size) undef).getD t undef = v' := by
      rw [Array.getD_eq_getD_getElem?, Array.getElem?_append_left (by simp; omega)]
      simp [hv']
    rw [e1, e2]
    exact hr
  · rw [if_neg (by omega)]
    have e2 : (args'.toArray ++ Array.replicate (nt - args'.toArray.size) undef).getD t undef = undef := by
      rw [Array.getD_eq_getD_getElem?, Array.getElem?_append_right (by simp; omega)]
      rw [Array.getElem?_replicate]
      split <;> rfl
    rw [e2]
    exact .top _

def resFn (tmps : Array Value) : ResultVar → Sem Value
  | .tmp t => pure (tmps.getD t undef)
  | .cell a t => do loadVar t (← asAddr (tmps.getD a undef))

theorem resAll_sound {φ : Phi} {σ : AHeap} {w : World} {τ : Tmps} {tmps : Array Value} (hR : R P φ σ w) (hT : TRel φ τ tmps) : ∀ (rs : List ResultVar) (cs : List (Sum Tmp (Tmp × Option Nat))) (vs : List Value), compRes P rs = some cs → resAll τ σ cs = some vs →
    ∃ vs', VsRel φ vs vs' ∧ (rs.mapM (resFn tmps)).run P w = .ok vs' w
  | [], cs, vs, hc, hv => by
    simp only [compRes, Option.some.injEq] at hc; subst hc
    simp only [resAll, Option.some.injEq] at hv; subst hv
    exact ⟨[], .nil, by simp⟩
  | .tmp t :: rs, cs, vs, hc, hv => by
    simp only [compRes, Option.map_eq_some_iff] at hc
    obtain ⟨cs', hc', rfl⟩ := hc
    simp only [resAll, resOf] at hv
    split at hv
    · rename_i vs1 h1
      cases hv
      obtain ⟨vs', hr, hrun⟩ := resAll_sound hR hT rs cs' vs1 hc' h1
      exact ⟨_, .cons (hT t) hr, by rw [List.mapM_cons]; simp only [resFn, Sem.run_bind, Sem.run_pure, Result.andThen_ok, hrun]⟩
    · cases hv
  | .cell a t :: rs, cs, vs, hc, hv => by
    simp only [compRes] at hc
    split at hc
    · rename_i sz cs' hsz hc'
      cases hc
      simp only [resAll] at hv
      split at hv
      · rename_i v0 h0
        split at hv
        · rename_i vs1 h1
          cases hv
          obtain ⟨vs', hr, hrun⟩ := resAll_sound hR hT rs cs' vs1 hc' h1
          simp only [resOf] at h0
          split at h0
          · rename_i ad had
            have hta := hT a
            rw [had] at hta
            generalize hq : tmps.getD a undef = q at hta
            cases hta with
            | ptr ha =>
              obtain ⟨v', hl, hvr⟩ := read_sound hR hsz ha h0
              refine ⟨_, .cons hvr hr, ?_⟩
              rw [List.mapM_cons]
              simp only [resFn, hq, asAddr, Sem.run_bind, Sem.run_pure, Result.andThen_ok, hl, hrun]
          · cases h0
        · cases hv
      · cases hv
    · cases hc

theorem pack_rel {φ : Phi} {vs vs' : List Value} (h : VsRel φ vs vs') : VRel φ (packRes vs) (if h : vs'.toArray.size = 1 then vs'.toArray[0] else .tuple vs'.toArray) := by
  match vs, vs', h with
  | [], [], _ => exact .tuple .nil
  | [v], [v'], .cons hv .nil => exact hv
  | v :: u :: l, v' :: u' :: l', h =>
    have : ¬ ((v' :: u' :: l').toArray.size = 1) := by simp
    rw [dif_neg this]
    exact .tuple (by simpa [packRes] using h)

def Ok (P : Program) (A : AProg) : Prop := ∀ f F, A f = some F → compF P f = some F

theorem compF_spec {f : FuncId} {F : AFunc} (h : compF P f = some F) : ∃ fn c, P.funcs[f]? = some fn ∧ fn.body = some c ∧ fn.name ≠ "runtime.NumGoroutine" ∧ compC P fn.ntmps c = some F.code ∧ compRes P fn.results.toList = some F.res := by
  unfold compF at h
  split at h
  · rename_i fn hf
    split at h
    · rename_i c hb
      split at h
      · rename_i code res hc hr
        split at h
        · rename_i hn
          cases h
          exact ⟨fn, c, hf, hb, by simpa using hn, hc, hr⟩
        · cases h
      · cases h
    · cases h
  · cases h

theorem run_results (fn : Func) (tmps : Array Value) (vs' : List Value) (w : World) (h : (fn.results.toList.mapM (resFn tmps)).run P w = .ok vs' w) :
    (results fn tmps).run P w = .ok (if h : vs'.toArray.size = 1 then vs'.toArray[0] else .tuple vs'.toArray) w := by
  have e : results fn tmps = (do let vs ← fn.results.mapM (resFn tmps); pure (if h : vs.size = 1 then vs[0] else .tuple vs)) := by
    unfold results
    congr 1
  rw [e, Array.mapM_eq_mapM_toList]
  simp only [Sem.run_bind, Sem.run_map, Sem.run_pure]
  rw [h]
  rfl

theorem stepF_sound {A : AProg} (hA : Ok P A) (hm : P.follows .mixedOrders = true) {cf : CallF} (hcf : SndF P cf) (n : Nat) : SndF P (stepF cf A n) := by
  intro f args σ v σ' h
  have hsz := stepF_size (cf := cf) (fun f args σ v σ' h => (hcf f args σ v σ' h).2.1) A n f args σ v σ' h
  unfold stepF at h
  split at h
  · cases h
  · rename_i F hF
    obtain ⟨fn, c, hf, hb, hn, hc, hr⟩ := compF_spec (hA f F hF)
    refine ⟨⟨fn, hf⟩, hsz, ?_⟩
    intro φ w args' hR hargs
    refine .inl ⟨⟨fn, c, hf, hb, hn⟩, ?_⟩
    have key : ∀ (e : AExit) (τ' : Tmps) (σ1 : AHeap), (e = .normal ∨ e = .ret) → evalC cf n F.code (ofArgs 0 args .nil) σ = some (e, τ', σ1) → (match resAll τ' σ1 F.res with | some vs => some (packRes vs, σ1) | none => none) = some (v, σ') →
        Calls P f args'.toArray w fun e w' => ∃ φ' v', e = .returned v' ∧ VRel φ' v v' ∧ Post P φ σ w φ' σ' w' := by
      intro e τ' σ1 hee hev hres
      split at hres
      · rename_i vs hvs
        simp only [Option.some.injEq, Prod.mk.injEq] at hres
        obtain ⟨rfl, rfl⟩ := hres
        refine calls_of_wp hf hb ?_
        refine evalC_sound hcf hm fn.ntmps n c F.code hc _ σ e τ' σ1 hev φ _ w hR (args_rel hargs fn.ntmps) (by simp; omega) _ ?_
        intro φ1 a1 w1 hp ht hs hd
        obtain ⟨vs', hrel, hrun⟩ := resAll_sound hp.rel ht fn.results.toList F.res vs hr hvs
        have hrr := run_results (P := P) fn a1.tmps vs' w1 hrun
        have : bodyPost P fn (fun e w' => ∃ φ' v', e = .returned v' ∧ VRel φ' (packRes vs) v' ∧ Post P φ σ w φ' σ1 w') .normal a1 w1 := ⟨hd, _, hrr, φ1, _, rfl, pack_rel hrel, hp⟩
        rcases hee with rfl | rfl <;> exact this
      · cases hres
    split at h
    · rename_i τ' σ1 hev
      exact key .normal τ' σ1 (.inl rfl) hev h
    · rename_i τ' σ1 hev
      exact key .ret τ' σ1 (.inr rfl) hev h
    · cases h

theorem evalF_sound {A : AProg} (hA : Ok P A) (hm : P.follows .mixedOrders = true) : ∀ n, SndF P (evalF A n)
  | 0 => fun f args σ v σ' h => by simp [evalF] at h
  | n + 1 => stepF_sound hA hm (evalF_sound hA hm n) n

theorem evalX_sound {X : CallF} (hX : SndF P X) {A : AProg} (hA : Ok P A) (hm : P.follows .mixedOrders = true) : ∀ n, SndF P (evalX X A n)
  | 0 => hX
  | n + 1 => fun f args σ v σ' h => by
    simp only [evalX] at h
    split at h
    · rename_i r hr
      rw [h] at hr
      exact hX f args σ v σ' hr
    · exact stepF_sound hA hm (evalX_sound hX hA hm n) n f args σ v σ' h

end Go.Bx

namespace Go.Bx
open Go.ChangeShapes Go.RowKit

structure Kept (W W' : World) : Prop where
  old : ∀ b, b < W.heap.size → W'.heap[b]? = W.heap[b]?
  os : W'.os = W.os
  out : W'.output = W.output

theorem Kept.but {W W' : World} (h : Kept W W') (may : MemPlace → Prop) : W.keptBut W' may := by
  refine ⟨h.os, h.out, fun i hi => ?_⟩
  rw [h.old i hi]
  cases hb : W.heap[i]? with
  | none => rfl
  | some o => cases o <;> simp

theorem Kept.same {W W' : World} (h : Kept W W') {p : MemPlace} (hp : p.block < W.heap.size) : W.sameAt W' p := by
  cases p with
  | cell b off => simp only [MemPlace.block] at hp; simp [World.sameAt, World.cell?, h.old b hp]
  | map b => simp only [MemPlace.block] at hp; simp [World.sameAt, h.old b hp]

theorem Kept.frozen {W W' : World} (h : Kept W W') (a : Addr) (ha : a.block < W.heap.size) : W'.frozen? a = W.frozen? a := by
  simp [World.frozen?, h.old _ ha]

section
variable {H : Type} {enc : TypeId × Value → H} {P : Program}

theorem trodAll_kept {W W' : World} (hk : Kept W W') : ∀ {ts : List TypeId} {vs : List Value} {ds : List (DataW H)} {ps : List MemPlace},
    DataW.TrodAll enc P W 0 (fun _ => true) true ts vs ds ps → (∀ p ∈ ps, p.block < W.heap.size) → DataW.TrodAll enc P W' 0 (fun _ => true) true ts vs ds ps
  | [], [], [], _, h, _ => h
  | _ :: _, _ :: _, _ :: _, _, ⟨p, q, ⟨n, h1⟩, h2, e⟩, hl =>
    ⟨p, q, ⟨n, DataW.trod_carry n _ _ _ h1 (fun x hx => hk.same (hl x (by rw [e]; exact List.mem_append_left _ hx)))⟩, trodAll_kept hk h2 (fun x hx => hl x (by rw [e]; exact List.mem_append_right _ hx)), e⟩

/-- The facts of the program's table of types that reading again needs. -/
structure Types (P : Program) : Prop where
  kids : Kids P (· < P.types.size)
  full : ∀ t e, t < P.types.size → P.underlying t = some (.slice e) → 0 < P.cellsOf e

theorem post_true (T : Types P) {f : Func} {s : ChangeSpec} {apart fresh handsOn again : Bool} {W W' : World} {args : Array Value} {ds gs : List (DataW H)} {before : List MemPlace}
    (hT : ∀ t ∈ f.params.toList, t < P.types.size) (hv : s.vars = []) (hW : DataW.Whole enc P f.params.toList s.vars apart W args.toList ds gs before)
    (hs : s.fn H ds = { results := [.lit (.bool true)], args := ds }) {tb : TypeId} (hr : f.resultTypes = #[tb]) (hb : P.underlying tb = some .bool)
    (hk : Kept W W') : s.post enc P f apart fresh handsOn again W args (.bool true) W' := by
  have hW0 := hW
  have hlt := hW.lt
  obtain ⟨p, q, hA, hV, rfl, hz, hn⟩ := hW
  rw [hv] at hV
  have hgs : gs = [] ∧ q = [] := by
    cases gs with
    | nil => exact ⟨rfl, by simpa [DataW.TrodVars] using hV⟩
    | cons _ _ => simp [DataW.TrodVars] at hV
  obtain ⟨rfl, rfl⟩ := hgs
  simp only [List.append_nil] at hlt hz hn hW0
  have hA1 := trodAll_kept hk hA hlt
  have hargs : ∀ sp : Nat → Bool, (∀ x ∈ p, sp x.block = true) → DataW.TrodAll enc P W' 0 sp true f.params.toList args.toList ds p :=
    fun sp h => DataW.TrodAll.respare T.kids T.full hT hA1 h
  have hvars : ∀ sp : Nat → Bool, DataW.TrodVars enc P W' sp s.vars ([] : List (DataW H)) [] := fun sp => by rw [hv]; simp [DataW.TrodVars]
  have hres : ∀ (b : Nat) (sp : Nat → Bool) (hd : Bool), DataW.TrodAll enc P W' b sp hd f.resultTypes.toList ((Value.bool true).resultList f.resultTypes.size) [.lit (.bool true)] [] := by
    intro b sp hd
    rw [hr]
    exact trodAll_cons_mk (shut_bool hb _) trodAll_mk0
  have hold : ∀ x ∈ p, (fun b => decide (b < W.heap.size)) x.block = true := fun x hx => by simpa using hlt x hx
  refine ⟨ds, [], p, [], p, [], hW0, ?_, ?_, ?_, hk.but _, fun _ => ⟨?_, ?_⟩⟩
  · rw [List.append_nil, hs]; exact hres _ _ _
  · rw [List.append_nil, hs]; exact hargs _ hold
  · rw [List.append_nil, hs]; exact hvars _
  · rw [hr]
    intro j t r hj hj'
    match j, hj, hj' with
    | 0, hj, hj' =>
      simp at hj
      subst hj
      have e : Value.bool true = r := by simpa [Value.resultList] using hj'
      subst e
      exact okWide_bool_mk hb true
    | j + 1, hj, _ => simp at hj
  · refine ⟨_, [], [] ++ p, ⟨[] ++ p, [], trodAll_append (hargs _ (fun _ _ => rfl)) (hres _ _ _), hvars _, by simp, ?_, ?_⟩, fun x hx _ => by simpa using hx⟩
    · intro b off hm
      have hm' : MemPlace.cell b off ∈ p := by simpa using hm
      rw [hk.frozen _ (hlt _ hm')]
      exact hz b off hm'
    · simpa using hn
end

section
variable {P : Program}
theorem Post.kept {φ φ' : Phi} {σ σ' : AHeap} {w w' : World} (h : Post P φ σ w φ' σ' w') (hn : ∀ b, ¬ Owned φ σ b) : Kept w w' :=
  ⟨fun b hb => h.keep b hb (hn b), h.env.1, h.env.2.1⟩
end
end Go.Bx

namespace Go.Bx
variable {P : Program}

def atomV : Value → Bool
  | .bool _ | .int _ _ | .string _ => true
  | _ => false
def flat1 : Value → Bool
  | .agg xs => xs.toList.all atomV
  | v => atomV v
def flatV : Value → Bool
  | .tuple xs => xs.toList.all flat1
  | v => flat1 v

theorem atom_eq {φ : Phi} {v v' : Value} (h : VRel φ v v') (hf : atomV v = true) : v' = v := by
  cases h <;> first | rfl | (simp [atomV] at hf; done)
theorem atom_rel {φ : Phi} {v : Value} (hf : atomV v = true) : VRel φ v v := by
  cases v <;> first | (simp [atomV] at hf; done) | constructor
theorem atom_one {v : Value} (hf : atomV v = true) : v.one1 = true := by
  cases v <;> first | (simp [atomV] at hf; done) | rfl
theorem atoms_eq {φ : Phi} : ∀ {l l' : List Value}, VsRel φ l l' → l.all atomV = true → l' = l
  | _, _, .nil, _ => rfl
  | _, _, .cons h hs, hf => by
    simp only [List.all_cons, Bool.and_eq_true] at hf
    rw [atom_eq h hf.1, atoms_eq hs hf.2]
theorem atoms_rel {φ : Phi} : ∀ {l : List Value}, l.all atomV = true → VsRel φ l l
  | [], _ => .nil
  | v :: l, hf => by
    simp only [List.all_cons, Bool.and_eq_true] at hf
    exact .cons (atom_rel hf.1) (atoms_rel hf.2)
theorem flat1_eq {φ : Phi} {v v' : Value} (h : VRel φ v v') (hf : flat1 v = true) : v' = v := by
  cases h with
  | agg h1 h => rw [Array.toList_inj.1 (atoms_eq h (by simpa [flat1] using hf))]
  | _ => first | rfl | simp [flat1, atomV] at hf
theorem flat1_rel {φ : Phi} {v : Value} (hf : flat1 v = true) : VRel φ v v := by
  cases v with
  | agg xs =>
    have hf' : xs.toList.all atomV = true := by simpa [flat1] using hf
    exact .agg (fun x hx => atom_one (List.all_eq_true.1 hf' x hx)) (atoms_rel hf')
  | _ => exact atom_rel (by simpa [flat1] using hf)
theorem flats_eq {φ : Phi} : ∀ {l l' : List Value}, VsRel φ l l' → l.all flat1 = true → l' = l
  | _, _, .nil, _ => rfl
  | _, _, .cons h hs, hf => by
    simp only [List.all_cons, Bool.and_eq_true] at hf
    rw [flat1_eq h hf.1, flats_eq hs hf.2]
theorem flats_rel {φ : Phi} : ∀ {l : List Value}, l.all flat1 = true → VsRel φ l l
  | [], _ => .nil
  | v :: l, hf => by
    simp only [List.all_cons, Bool.and_eq_true] at hf
    exact .cons (flat1_rel hf.1) (flats_rel hf.2)
theorem flatV_eq {φ : Phi} {v v' : Value} (h : VRel φ v v') (hf : flatV v = true) : v' = v := by
  cases h with
  | tuple h => rw [Array.toList_inj.1 (flats_eq h (by simpa [flatV] using hf))]
  | agg h1 h => exact flat1_eq (.agg h1 h) (by simpa [flatV] using hf)
  | _ => first | rfl | simp [flatV, flat1, atomV] at hf
theorem flatV_rel {φ : Phi} {v : Value} (hf : flatV v = true) : VRel φ v v := by
  cases v with
  | tuple xs => exact .tuple (flats_rel (by simpa [flatV] using hf))
  | _ => exact flat1_rel (by simpa [flatV] using hf)

def absent : Phi := ⟨fun _ => .absent, fun _ => none⟩
theorem R.zero (P : Program) (w : World) : R P absent AHeap.empty w :=
  ⟨fun _ _ => rfl, fun _ _ h => by simp [absent] at h, fun _ _ _ _ h => by simp [absent] at h, fun _ _ _ _ _ _ _ _ _ h => by simp [absent] at h, fun _ _ h => by simp [absent] at h, fun _ _ _ _ _ h => by simp [absent] at h⟩
theorem owned_zero (b : Nat) : ¬ Owned absent AHeap.empty b := by
  rintro ⟨i, o, k, obj, h, _⟩
  simp [absent] at h

/-- A call of plain arguments with a plain result. -/
def Pure (P : Program) (f : FuncId) (args : List Value) (v : Value) : Prop :=
  args.all flat1 = true ∧ flatV v = true ∧ ∃ cf : CallF, SndF P cf ∧ ∃ σ', cf f args AHeap.empty = some (v, σ')

/-- What keeps all that was there keeps every relation. -/
theorem R.carry {φ : Phi} {σ : AHeap} {w w' : World} (h : R P φ σ w) (hk : ∀ b, b < w.heap.size → w'.heap[b]? = w.heap[b]?) : R P φ σ w' :=
  ⟨h.bnd, h.dead, fun i b o k hl => by
    obtain ⟨obj, c, e, fr, h1, h2, h3⟩ := h.live i b o k hl
    exact ⟨obj, c, e, fr, h1, by rw [hk b (h.blk_lt hl)]; exact h2, h3⟩, h.excl, fun b c hb => by
    obtain ⟨e, fr, he⟩ := h.froz b c hb
    exact ⟨e, fr, by rw [hk b (Array.getElem?_eq_some_iff.1 he).1]; exact he⟩, h.nofz⟩

def pureX (K : FuncId → List Value → Option Value) : CallF := fun f args σ => (K f args).map (·, σ)

theorem pureX_sound {K : FuncId → List Value → Option Value} (hK : ∀ f args v, K f args = some v → Pure P f args v) : SndF P (pureX K) := by
  intro f args σ v σ' h
  unfold pureX at h
  simp only [Option.map_eq_some_iff, Prod.mk.injEq] at h
  obtain ⟨v0, hv0, rfl, rfl⟩ := h
  obtain ⟨ha, hv, cf, hs, σ1, he⟩ := hK f args v0 hv0
  obtain ⟨h1, _, h3⟩ := hs f args AHeap.empty v0 σ1 he
  refine ⟨h1, Nat.le_refl _, ?_⟩
  intro φ w args' hR hargs
  obtain rfl := flats_eq hargs ha
  refine (h3 absent w args' (R.zero P w) (flats_rel ha)).mono ?_
  rintro e w' ⟨φ1, v1, rfl, hv1, hp⟩
  obtain rfl := flatV_eq hv1 hv
  have hk : ∀ b, b < w.heap.size → w'.heap[b]? = w.heap[b]? := fun b hb => hp.keep b hb (owned_zero b)
  exact ⟨φ, v1, rfl, flatV_rel hv, ⟨Nat.le_refl _, Le.refl _, fun _ _ h => ⟨h, rfl⟩, hR.carry hk, fun _ h => .inl h, fun i b o k h1 h2 => by (rw [h1] at h2; cases h2), fun b hb _ => hk b hb, hp.grow, hp.env, fun _ _ h => .inl h⟩⟩

theorem evalX_pure {K : FuncId → List Value → Option Value} (hK : ∀ f args v, K f args = some v → Pure P f args v) {A : AProg} (hA : Ok P A) (hm : P.follows .mixedOrders = true) (n : Nat) {f : FuncId} {args : List Value} {v : Value} {σ' : AHeap}
    (ha : args.all flat1 = true) (hv : flatV v = true) (he : evalX (pureX K) A n f args AHeap.empty = some (v, σ')) : Pure P f args v :=
  ⟨ha, hv, _, evalX_sound (pureX_sound hK) hA hm n, σ', he⟩

/-! ### Tables of closed calls -/

def flatEq1 : Value → Value → Bool
  | .agg xs, .agg ys => valsEq xs.toList ys.toList
  | v, w => valEq v w
def flatsEq : List Value → List Value → Bool
  | [], [] => true
  | a :: x, b :: y => flatEq1 a b && flatsEq x y
  | _, _ => false
def sameV : Value → Value → Bool
  | .tuple xs, .tuple ys => flatsEq xs.toList ys.toList
  | v, w => flatEq1 v w

theorem flatEq1_eq {v w : Value} (h : flatEq1 v w = true) : v = w := by
  unfold flatEq1 at h
  split at h
  · rw [Array.toList_inj.1 (valsEq_eq h)]
  · exact valEq_eq h
theorem flatsEq_eq : ∀ {l m : List Value}, flatsEq l m = true → l = m
  | [], [], _ => rfl
  | [], _ :: _, h => by simp [flatsEq] at h
  | _ :: _, [], h => by simp [flatsEq] at h
  | a :: x, b :: y, h => by
    simp only [flatsEq, Bool.and_eq_true] at h
    rw [flatEq1_eq h.1, flatsEq_eq h.2]
theorem sameV_eq {v w : Value} (h : sameV v w = true) : v = w := by
  unfold sameV at h
  split at h
  · rw [Array.toList_inj.1 (flatsEq_eq h)]
  · exact flatEq1_eq h

abbrev Table := List (FuncId × List Value × Value)
def look : Table → FuncId → List Value → Option Value
  | [], _, _ => none
  | (g, as, v) :: rest, f, args => cond (Nat.beq g f && flatsEq as args) (some v) (look rest f args)

def Good (P : Program) (t : Table) : Prop := ∀ f args v, look t f args = some v → Pure P f args v
theorem Good.nil : Good P [] := fun _ _ _ h => by simp [look] at h
theorem Good.cons {t : Table} (h : Good P t) {f : FuncId} {args : List Value} {v : Value} (hp : Pure P f args v) : Good P ((f, args, v) :: t) := by
  intro g as u hl
  simp only [look] at hl
  cases hb : (Nat.beq f g && flatsEq args as) with
  | true =>
    rw [hb] at hl
    simp only [Bool.and_eq_true] at hb
    obtain rfl := Nat.eq_of_beq_eq_true hb.1
    obtain rfl := flatsEq_eq hb.2
    simp only [cond_true, Option.some.injEq] at hl
    rw [← hl]; exact hp
  | false =>
    rw [hb] at hl
    exact h g as u hl

/-- One closed call more, by computation. -/
def closedB (A : AProg) (t : Table) (n : Nat) (f : FuncId) (args : List Value) (v : Value) : Bool :=
  args.all flat1 && flatV v && (match evalX (pureX (look t)) A n f args AHeap.empty with | some (u, _) => sameV u v | none => false)

theorem Good.more {t : Table} (h : Good P t) {A : AProg} (hA : Ok P A) (hm : P.follows .mixedOrders = true) (n : Nat) {f : FuncId} {args : List Value} {v : Value} (hb : closedB A t n f args v = true) : Pure P f args v := by
  simp only [closedB, Bool.and_eq_true] at hb
  obtain ⟨⟨ha, hv⟩, he⟩ := hb
  split at he
  · rename_i u σ' heq
    obtain rfl := sameV_eq he
    exact evalX_pure h hA hm n ha hv heq
  · cases he
end Go.Bx

namespace Go.Bx
variable {P : Program}
theorem ok_lt {f n : Nat} {x y : Option AFunc} (h1 : ∀ F, x = some F → compF P f = some F) (h2 : ∀ F, y = some F → compF P f = some F) : ∀ F, (bif Nat.blt f n then x else y) = some F → compF P f = some F := by
  intro F h
  cases hb : Nat.blt f n with
  | true => rw [hb] at h; exact h1 F h
  | false => rw [hb] at h; exact h2 F h
theorem ok_leaf {f k : Nat} {G : AFunc} (h : compF P k = some G) : ∀ F, (bif Nat.beq f k then some G else none) = some F → compF P f = some F := by
  intro F hF
  cases hb : Nat.beq f k with
  | true =>
    rw [hb] at hF
    cases hF
    rw [Nat.eq_of_beq_eq_true hb]
    exact h
  | false => rw [hb] at hF; cases hF
end Go.Bx

