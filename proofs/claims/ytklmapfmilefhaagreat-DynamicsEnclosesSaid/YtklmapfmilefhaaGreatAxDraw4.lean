/-
  AX, PART 14d: regions that draw their order: one operation more.
-/
import Derived.Test.YtklmapfmilefhaaGreatAxDraw3
set_option linter.unusedSimpArgs false
set_option linter.unusedVariables false
set_option linter.unusedSectionVars false
namespace Go.Ax
variable {P : Program} {cf : CallF} {ops : Array Oper} {nt : Nat} {cs : List AOper} {st : Nat → Tmps × AHeap} {hs : List (Nat × AHeap × AHeap)} {ids : List (Nat × List Nat)}
variable {φ0 : Phi} {w0 : World} {D : List Deferred} {listed : Array Bool} {a : Act} {w : World} {φ : Phi} {m : Nat}

theorem names_opd {o : Oper} {x : Operand} {t : Tmp} (hx : x ∈ o.op.operands.toList) (e : x = .tmp t) (l : List Oper) : t ∈ namesOf l o := by
  unfold namesOf
  simp only [List.mem_append]
  refine .inr (.inl ?_)
  subst e
  generalize o.op.operands.toList = xs at hx
  induction xs with
  | nil => cases hx
  | cons y ys ih =>
    cases hx with
    | head => simp [opdTmps]
    | tail _ h => cases y <;> simp [opdTmps, ih h]

/-- The operands of an operation that comes up. -/
theorem Inv.opds (K : Ctx P cf ops nt cs st hs ids) (I : Inv P ops nt cs st φ0 w0 D listed a w φ m) {i : Nat} {o : Oper} {c : AOper} (ho : ops[i]? = some o) (hc : cs[i]? = some c) (hun : ¬ Done listed i) (hr : ∀ e ∈ o.after.toList, Region.binds .any e = true → Done listed e.on) :
    ∀ x ∈ o.op.operands.toList, VRel (res φ (st i).2.size) (opd (st i).1 x) (a.eval x) := by
  intro x hx
  have hok := (K.spec i o c ho hc).2.1 x hx
  cases x with
  | tmp t => exact I.tmp K ho hun hr (names_opd hx rfl _)
  | const v => exact closed_rel _ hok
  | global g => simp [okOpd] at hok
  | func f => exact .func f .nil .nil

theorem Inv.wanted (K : Ctx P cf ops nt cs st hs ids) (I : Inv P ops nt cs st φ0 w0 D listed a w φ m) {i : Nat} {o : Oper} {c : AOper} (ho : ops[i]? = some o) (hc : cs[i]? = some c) (hun : ¬ Done listed i) (hr : ∀ e ∈ o.after.toList, Region.binds .any e = true → Done listed e.on) :
    wantedA (st i).1 c.guard = Region.wanted o (yielded ops a.tmps) := by
  rw [(K.spec i o c ho hc).2.2.2.2]
  refine wanted_rel (φ := res φ (st i).2.size) (fun j w d hg hd => I.tmp K ho hun hr ?_)
  unfold namesOf
  simp only [List.mem_append]
  refine .inr (.inr ?_)
  rw [hg]
  simp [hd]

/-- The parts of the invariant that an operation changes alike, whatever it is. -/
theorem Inv.tm_next (K : Ctx P cf ops nt cs st hs ids) (I : Inv P ops nt cs st φ0 w0 D listed a w φ m) {i : Nat} {o : Oper} {c : AOper} (ho : ops[i]? = some o) (hc : cs[i]? = some c) (hun : ¬ Done listed i) (hr : ∀ e ∈ o.after.toList, Region.binds .any e = true → Done listed e.on)
    {φ' : Phi} (hle : Le φ φ') {v v' : Value} (hput : (st (i + 1)).1 = putA (st i).1 c.dst v) (hv : VRel (res φ' (st (i + 1)).2.size) v v') :
    ∀ t, ∃ q, q ≤ ops.size ∧ ((q = 0 ∧ ∀ (j : Nat) (p : Oper), ops[j]? = some p → p.dst = some t → ¬ Done (listed.setIfInBounds i true) j) ∨
      ∃ (j : Nat) (p : Oper), q = j + 1 ∧ ops[j]? = some p ∧ p.dst = some t ∧ Done (listed.setIfInBounds i true) j ∧ ∀ (j' : Nat) (p' : Oper), ops[j']? = some p' → p'.dst = some t → Done (listed.setIfInBounds i true) j' → j' ≤ j) ∧
    VRel (res φ' (st q).2.size) ((st q).1.at t) ((a.put o.dst v').tmps.getD t undef) := by
  intro t
  have hil : i < ops.size := (Array.getElem?_eq_some_iff.1 ho).1
  have hsz : i < listed.size := by rw [I.size]; exact hil
  have hcd := (K.spec i o c ho hc).2.2.2.1
  by_cases hd : o.dst = some t
  · refine ⟨i + 1, by omega, .inr ⟨i, o, rfl, ho, hd, (Done.set hsz).2 (.inl rfl), fun j' p' hp' hd' hj' => ?_⟩, ?_⟩
    · by_cases hne : j' = i
      · omega
      · have hdone := ((Done.set hsz).1 hj').resolve_left hne
        have hn : t ∈ namesOf ops.toList o := by unfold namesOf; simp [hd]
        have := (I.order ho hun hr hp' (Ne.symm hne) (K.tmps i j' o p' t ho hp' (Ne.symm hne) hn hd')).1 hdone
        omega
    · have hlt : t < a.tmps.size := Nat.lt_of_lt_of_le ((K.spec i o c ho hc).2.2.1 t hd) I.tsz
      rw [hput, hcd, hd]
      simp only [putA, Act.put, at_set, if_true, getD_set _ _ _ _ hlt]
      exact hv
  · obtain ⟨q, hq, hcase, hvq⟩ := I.tm t
    refine ⟨q, hq, ?_, ?_⟩
    · rcases hcase with ⟨rfl, hno⟩ | ⟨j, p, rfl, hp, hpd, hdone, hmax⟩
      · refine .inl ⟨rfl, fun j p hp hpd hj => ?_⟩
        rcases (Done.set hsz).1 hj with rfl | hj
        · rw [ho] at hp; cases hp; exact hd hpd
        · exact hno j p hp hpd hj
      · refine .inr ⟨j, p, rfl, hp, hpd, (Done.set hsz).2 (.inr hdone), fun j' p' hp' hpd' hj' => ?_⟩
        rcases (Done.set hsz).1 hj' with rfl | hj'
        · rw [ho] at hp'; cases hp'; exact absurd hpd' hd
        · exact hmax j' p' hp' hpd' hj'
    · have : (a.put o.dst v').tmps.getD t undef = a.tmps.getD t undef := by
        cases hod : o.dst with
        | none => rfl
        | some d =>
          have hlt : d < a.tmps.size := Nat.lt_of_lt_of_le ((K.spec i o c ho hc).2.2.1 d hod) I.tsz
          simp only [Act.put, getD_set _ _ _ _ hlt]
          rw [if_neg (fun e => hd (by rw [hod, e]))]
      rw [this]
      exact hvq.mono (res_mono hle _)

theorem Inv.closed_next (I : Inv P ops nt cs st φ0 w0 D listed a w φ m) {i : Nat} {o : Oper} (ho : ops[i]? = some o) (hr : ∀ e ∈ o.after.toList, Region.binds .any e = true → Done listed e.on) :
    ∀ (j : Nat) (p : Oper), ops.toList[j]? = some p → Done (listed.setIfInBounds i true) j → ∀ e ∈ p.after.toList, Region.binds .any e = true → Done (listed.setIfInBounds i true) e.on := by
  intro j p hp hj e he hb
  have hil : i < ops.size := (Array.getElem?_eq_some_iff.1 ho).1
  have hsz : i < listed.size := by rw [I.size]; exact hil
  rcases (Done.set hsz).1 hj with rfl | hj
  · have : ops.toList[j]? = some o := by simpa using ho
    rw [this] at hp; cases hp
    exact (Done.set hsz).2 (.inr (hr e he hb))
  · exact (Done.set hsz).2 (.inr (I.closed j p hp hj e he hb))

/-- A writer comes up: the heap stands as it stood in text order. -/
theorem Inv.heapAt (K : Ctx P cf ops nt cs st hs ids) (I : Inv P ops nt cs st φ0 w0 D listed a w φ m) {i : Nat} {c : AOper} (hil : i < ops.size) (hmi : m ≤ i) (hno : ∀ (k : Nat) (p : AOper), m ≤ k → k < i → cs[k]? = some p → isWriter p.op = false) :
    R P (res φ (st i).2.size) (st i).2 w := by
  have hget : ∀ id b o k, φ id = .live b o k → id < (st i).2.size → ∃ obj c e fr, (st i).2.get id = some obj ∧ w.heap[b]? = some (.cells c e fr) ∧
      (∀ (j : Nat) (v : Value), obj.cells[j]? = some v → v.oneCell' = true ∧ ∃ v' : Value, c[o + j]? = some v' ∧ VRel (res φ (st i).2.size) v v') ∧
      (obj.own = true → (o = 0 ∧ fr = (0, 0) ∧ e = obj.elem ∧ (∀ n, k = some n → c.size = n * P.cellsOf e)) ∧ (Owned φ0 (st 0).2 b ∨ w0.heap.size ≤ b) ∧ ∀ id2 b2 o2 k2, φ id2 = .live b2 o2 k2 → id2 ≠ id → b2 ≠ b) := by
    intro id b o k hl hlt
    obtain ⟨q, obj, c, e, fr, hmq, hqn, hidq, hcase, hg, hb, hcells, hown⟩ := I.live id b o k hl
    have hqi : q ≤ i := by
      rcases hcase with rfl | ⟨j, rfl, hj⟩
      · exact hmi
      · rcases Nat.lt_or_ge j i with h | h
        · exact h
        · have := K.sizes h (by omega)
          omega
    refine ⟨obj, c, e, fr, ?_, hb, fun j v hj => ?_, hown⟩
    · rw [K.same hqi (by omega) (fun k p h1 h2 => hno k p (by omega) h2) hidq]; exact hg
    · obtain ⟨h1, v', h2, h3⟩ := hcells j v hj
      exact ⟨h1, v', h2, h3.mono (res_le (K.sizes hqi (by omega)))⟩
  refine ⟨fun id hid => by unfold res; rw [if_neg (by omega)], ?_, ?_, ?_⟩
  · intro id p hd
    unfold res at hd
    split at hd
    · obtain ⟨h1, h2⟩ := I.dead id p hd
      rw [K.same hmi (by omega) hno h1]; exact h2
    · cases hd
  · intro id b o k hl
    unfold res at hl
    split at hl
    · rename_i hlt
      obtain ⟨obj, c, e, fr, h1, h2, h3, h4⟩ := hget id b o k hl hlt
      exact ⟨obj, c, e, fr, h1, h2, h3, fun ho => (h4 ho).1⟩
    · cases hl
  · intro id id2 b o k b2 o2 k2 obj hl hl2 hg ho hne
    unfold res at hl hl2
    split at hl
    · rename_i hlt
      split at hl2
      · obtain ⟨obj', c, e, fr, h1, h2, h3, h4⟩ := hget id b o k hl hlt
        rw [hg] at h1; cases h1
        exact Ne.symm ((h4 ho).2.2 id2 b2 o2 k2 hl2 (Ne.symm hne))
      · cases hl2
    · cases hl

/-- Two relations, one below a bound, one above. -/
def glue (φ' φ : Phi) (n : Nat) : Phi := fun i => if i < n then φ' i else φ i

theorem Inv.next_writer (K : Ctx P cf ops nt cs st hs ids) (I : Inv P ops nt cs st φ0 w0 D listed a w φ m) (hbnd0 : ∀ i, (st 0).2.size ≤ i → φ0 i = .absent) {i : Nat} {o : Oper} {c : AOper} (ho : ops[i]? = some o) (hc : cs[i]? = some c) (hun : ¬ Done listed i) (hr : ∀ e ∈ o.after.toList, Region.binds .any e = true → Done listed e.on)
    (hw : isWriter c.op = true) (hmi : m ≤ i) (hno : ∀ (k : Nat) (p : AOper), m ≤ k → k < i → cs[k]? = some p → isWriter p.op = false) {φ' : Phi} {w' : World} (hp : Post P (res φ (st i).2.size) (st i).2 w φ' (st (i + 1)).2 w') {v v' : Value}
    (hput : (st (i + 1)).1 = putA (st i).1 c.dst v) (hv : VRel φ' v v') : Inv P ops nt cs st φ0 w0 D (listed.setIfInBounds i true) (a.put o.dst v') w' (glue φ' φ (st (i + 1)).2.size) (i + 1) := by
  have hil : i < ops.size := (Array.getElem?_eq_some_iff.1 ho).1
  have hsz : i < listed.size := by rw [I.size]; exact hil
  have hs1 := K.size1 hil
  have hR := I.heapAt K (c := c) hil hmi hno
  -- nothing new is there yet
  have hfresh : ∀ id, (st i).2.size ≤ id → id < (st (i + 1)).2.size → φ id = .absent := by
    intro id h1 h2
    cases hs : φ id with
    | absent => rfl
    | _ =>
      rcases I.dom id (by simp [hs]) with h3 | ⟨j, hj, hjn, h3, h4⟩
      · have := K.sizes (Nat.zero_le i) (by omega); omega
      · have hji : j ≠ i := fun e => hun (e ▸ hj)
        rcases Nat.lt_or_ge j i with h | h
        · have := K.sizes (show j + 1 ≤ i by omega) (by omega); omega
        · have := K.sizes (show i + 1 ≤ j by omega) (by omega); omega
  have hle : Le φ (glue φ' φ (st (i + 1)).2.size) := by
    intro id hid
    unfold glue
    by_cases h : id < (st (i + 1)).2.size
    · rw [if_pos h]
      have hlt : id < (st i).2.size := by
        rcases Nat.lt_or_ge id (st i).2.size with h' | h'
        · exact h'
        · exact absurd (hfresh id h' h) hid
      have := hp.le id (by unfold res; rw [if_pos hlt]; exact hid)
      unfold res at this
      rwa [if_pos hlt] at this
    · rw [if_neg h]; exact .inl rfl
  have hgl : Le φ' (res (glue φ' φ (st (i + 1)).2.size) (st (i + 1)).2.size) := by
    intro id hid
    left
    have hlt := hp.rel.id_lt hid
    unfold res glue
    rw [if_pos hlt, if_pos hlt]
  have hblk : ∀ id b o k, φ id = .live b o k → b < w.heap.size := by
    intro id b o k hl
    obtain ⟨q, obj, c, e, fr, _, _, _, _, _, hb, _⟩ := I.live id b o k hl
    exact (Array.getElem?_eq_some_iff.1 hb).1
  have ownedUp : ∀ b, Owned (res φ (st i).2.size) (st i).2 b → (Owned φ0 (st 0).2 b ∨ w0.heap.size ≤ b) ∧ ∃ id o k, id < (st i).2.size ∧ φ id = .live b o k ∧ ∀ id2 b2 o2 k2, φ id2 = .live b2 o2 k2 → id2 ≠ id → b2 ≠ b := by
    rintro b ⟨id, o', k', obj, hl, hg, hoo⟩
    unfold res at hl
    split at hl
    · rename_i hlt
      obtain ⟨q, obj', c', e', fr', hmq, hqn, hidq, hcase, hg', hb, hcells, hown⟩ := I.live id b o' k' hl
      have hqi : q ≤ i := by
        rcases hcase with rfl | ⟨j, rfl, hj⟩
        · exact hmi
        · rcases Nat.lt_or_ge j i with h | h
          · exact h
          · have := K.sizes h (by omega); omega
      have : (st i).2.get id = some obj' := by rw [K.same hqi (by omega) (fun k p h1 h2 => hno k p (by omega) h2) hidq]; exact hg'
      rw [hg] at this; cases this
      exact ⟨(hown hoo).2.1, id, o', k', hlt, hl, (hown hoo).2.2⟩
    · cases hl
  refine ⟨by simp [I.size], I.closed_next ho hr, by omega, ?_, .inr ⟨i, c, rfl, hc, hw⟩, ?_, I.le.trans hle, ?_, ?_, ?_, ?_, ?_, ?_, Nat.le_trans I.grow hp.grow, ?_, I.tm_next K ho hc hun hr hle hput (hv.mono hgl), by rw [put_size]; exact I.tsz, by rw [put_defers']; exact I.df⟩
  · -- mw
    intro k p hk hpw
    rw [Done.set hsz, I.mw k p hk hpw]
    constructor
    · rintro (rfl | h) <;> omega
    · intro h
      by_cases hki : k = i
      · exact .inl hki
      · right
        rcases Nat.lt_or_ge k m with h' | h'
        · exact h'
        · have := hno k p h' (by omega) hk
          rw [hpw] at this; cases this
  · -- dom
    intro id hid
    unfold glue at hid
    split at hid
    · rename_i hlt
      by_cases hli : id < (st i).2.size
      · have hne : φ id ≠ .absent := by
          intro e
          have := (hp.abs id hli (by unfold res; rw [if_pos hli]; exact e)).1
          exact hid this
        rcases I.dom id hne with h | ⟨j, hj, hjn, h1, h2⟩
        · exact .inl h
        · exact .inr ⟨j, (Done.set hsz).2 (.inr hj), hjn, h1, h2⟩
      · exact .inr ⟨i, (Done.set hsz).2 (.inl rfl), hil, by omega, hlt⟩
    · rcases I.dom id hid with h | ⟨j, hj, hjn, h1, h2⟩
      · exact .inl h
      · exact .inr ⟨j, (Done.set hsz).2 (.inr hj), hjn, h1, h2⟩
  · -- live
    intro id b o' k' hl
    unfold glue at hl
    split at hl
    · rename_i hlt
      obtain ⟨obj, c', e', fr', h1, h2, h3, h4⟩ := hp.rel.live id b o' k' hl
      refine ⟨i + 1, obj, c', e', fr', Nat.le_refl _, by omega, hlt, .inl rfl, h1, h2, fun j v hj => ?_, fun hoo => ⟨h4 hoo, ?_, ?_⟩⟩
      · obtain ⟨h5, v', h6, h7⟩ := h3 j v hj
        exact ⟨h5, v', h6, h7.mono hgl⟩
      · rcases hp.own b ⟨id, o', k', obj, hl, h1, hoo⟩ with h | h
        · exact (ownedUp b h).1
        · exact .inr (Nat.le_trans I.grow h)
      · intro id2 b2 o2 k2 hl2 hne
        unfold glue at hl2
        split at hl2
        · exact Ne.symm (hp.rel.excl id id2 b o' k' b2 o2 k2 obj hl hl2 h1 hoo (Ne.symm hne))
        · rcases hp.own b ⟨id, o', k', obj, hl, h1, hoo⟩ with h | h
          · obtain ⟨_, id3, o3, k3, hlt3, hl3, hex⟩ := ownedUp b h
            exact hex id2 b2 o2 k2 hl2 (by omega)
          · have := hblk id2 b2 o2 k2 hl2; omega
    · rename_i hge
      obtain ⟨q, obj, c', e', fr', hmq, hqn, hidq, hcase, hg, hb, hcells, hown⟩ := I.live id b o' k' hl
      have hqi : i + 1 < q := by
        rcases Nat.lt_or_ge (i + 1) q with h | h
        · exact h
        · have := K.sizes h (by omega); omega
      have hcase' : ∃ j, q = j + 1 ∧ (st j).2.size ≤ id := hcase.resolve_left (by omega)
      have hnb : ¬ Owned (res φ (st i).2.size) (st i).2 b := by
        intro h
        obtain ⟨_, id3, o3, k3, hlt3, hl3, hex⟩ := ownedUp b h
        exact hex id b o' k' hl (by omega) rfl
      refine ⟨q, obj, c', e', fr', by omega, hqn, hidq, .inr hcase', hg, by rw [hp.keep b (hblk id b o' k' hl) hnb]; exact hb, fun j v hj => ?_, fun hoo => ⟨(hown hoo).1, (hown hoo).2.1, ?_⟩⟩
      · obtain ⟨h5, v', h6, h7⟩ := hcells j v hj
        exact ⟨h5, v', h6, h7.mono (res_mono hle _)⟩
      · intro id2 b2 o2 k2 hl2 hne
        unfold glue at hl2
        split at hl2
        · rename_i hlt2
          by_cases hli : id2 < (st i).2.size
          · -- an old block keeps its place
            have hne2 : (res φ (st i).2.size) id2 ≠ .absent := by
              intro e
              have := (hp.abs id2 hli e).1
              rw [hl2] at this; cases this
            rcases hp.le id2 hne2 with e | ⟨e, _⟩
            · rw [hl2] at e
              unfold res at e
              rw [if_pos hli] at e
              exact (hown hoo).2.2 id2 b2 o2 k2 e.symm hne
            · rw [hl2] at e; cases e
          · have habs : (res φ (st i).2.size) id2 = .absent := by unfold res; rw [if_neg hli]
            rcases hp.new id2 b2 o2 k2 habs hl2 with h | h
            · obtain ⟨_, id3, o3, k3, hlt3, hl3, hex⟩ := ownedUp b2 h
              exact Ne.symm (hex id b o' k' hl (by omega))
            · have := hblk id b o' k' hl; omega
        · exact (hown hoo).2.2 id2 b2 o2 k2 hl2 hne
  · -- dead
    intro id p hd
    unfold glue at hd
    split at hd
    · rename_i hlt
      exact ⟨hlt, hp.rel.dead id p hd⟩
    · rename_i hge
      have := (I.dead id p hd).1
      have := K.sizes (show m ≤ i + 1 by omega) (by omega)
      omega
  · -- absent
    intro id hab q1 q2 h12 h2 hid
    have habφ : φ id = .absent := by
      unfold glue at hab
      split at hab
      · rename_i hlt
        by_cases hli : id < (st i).2.size
        · cases hs : φ id with
          | absent => rfl
          | _ =>
            rcases hp.le id (by unfold res; rw [if_pos hli, hs]; simp) with e | ⟨e, _⟩ <;> rw [hab] at e
            · unfold res at e; rw [if_pos hli, hs] at e; cases e
            · cases e
        · exact hfresh id (by omega) hlt
      · exact hab
    have upto : ∀ q, q ≤ i → id < (st q).2.size → (st i).2.get id = (st q).2.get id := by
      intro q hq hid
      rcases Nat.lt_or_ge q m with h | h
      · have e1 := I.absent id habφ q m (by omega) (Nat.le_refl _) hid
        have e2 := K.same hmi (by omega) hno (Nat.lt_of_lt_of_le hid (K.sizes (by omega) (by omega)))
        rw [e2, e1]
      · exact K.same hq (by omega) (fun k p h1 h2 => hno k p (by omega) h2) hid
    by_cases h2i : q2 = i + 1
    · subst h2i
      by_cases h1i : q1 = i + 1
      · subst h1i; rfl
      · have hidi : id < (st i).2.size := Nat.lt_of_lt_of_le hid (K.sizes (by omega) (by omega))
        have := (hp.abs id hidi (by unfold res; rw [if_pos hidi]; exact habφ)).2
        rw [this, upto q1 (by omega) hid]
    · have e1 := upto q1 (by omega) hid
      have e2 := upto q2 (by omega) (Nat.lt_of_lt_of_le hid (K.sizes h12 (by omega)))
      rw [← e2, e1]
  · -- zero
    intro id hid h0
    have hz := I.zero id hid h0
    have hli : id < (st i).2.size := Nat.lt_of_lt_of_le hid (K.sizes (Nat.zero_le _) (by omega))
    unfold glue
    rw [if_pos (by omega)]
    exact (hp.abs id hli (by unfold res; rw [if_pos hli]; exact hz)).1
  · -- new
    intro id b o' k' h0 hl
    unfold glue at hl
    split at hl
    · rename_i hlt
      have habs : ∀ (_ : φ id = .absent), Owned φ0 (st 0).2 b ∨ w0.heap.size ≤ b := by
        intro hz
        have : (res φ (st i).2.size) id = .absent := by unfold res; split; exact hz; rfl
        rcases hp.new id b o' k' this hl with h | h
        · exact (ownedUp b h).1
        · exact .inr (Nat.le_trans I.grow h)
      cases hs : φ id with
      | absent => exact habs hs
      | dead =>
        rcases hle id (by simp [hs]) with e | ⟨e, _⟩ <;> unfold glue at e <;> rw [if_pos hlt, hl] at e
        · rw [hs] at e; cases e
        · cases e
      | live b1 o1 k1 =>
        rcases hle id (by simp [hs]) with e | ⟨e, _⟩ <;> unfold glue at e <;> rw [if_pos hlt, hl] at e
        · rw [hs] at e
          injection e with e1 e2 e3
          subst e1
          exact I.new id b o1 k1 h0 hs
        · cases e
    · exact I.new id b o' k' h0 hl
  · -- keep
    intro b hb hn
    rw [hp.keep b (Nat.lt_of_lt_of_le hb I.grow) ?_, I.keep b hb hn]
    intro h
    rcases (ownedUp b h).1 with h1 | h1
    · exact hn h1
    · omega
  · exact ⟨hp.env.1.trans I.env.1, hp.env.2.1.trans I.env.2.1, hp.env.2.2.trans I.env.2.2⟩

/-- An operation that is no writer. -/
theorem Inv.next_quiet (K : Ctx P cf ops nt cs st hs ids) (I : Inv P ops nt cs st φ0 w0 D listed a w φ m) {i : Nat} {o : Oper} {c : AOper} (ho : ops[i]? = some o) (hc : cs[i]? = some c) (hun : ¬ Done listed i) (hr : ∀ e ∈ o.after.toList, Region.binds .any e = true → Done listed e.on)
    (hw : isWriter c.op = false) {φ' : Phi} {w' : World} (p1 : ∀ id, id < (st i).2.size → φ' id = φ id) (p2 : ∀ id, (st (i + 1)).2.size ≤ id → φ' id = .absent)
    (p3 : ∀ id, (st i).2.size ≤ id → id < (st (i + 1)).2.size → id = (st i).2.size ∧ (∀ p, φ' id ≠ .dead p) ∧ ∀ b o k, φ' id = .live b o k → ∃ obj c e fr, (st (i + 1)).2.get id = some obj ∧ w'.heap[b]? = some (.cells c e fr) ∧
      (∀ (j : Nat) (v : Value), obj.cells[j]? = some v → v.oneCell' = true ∧ ∃ v' : Value, c[o + j]? = some v' ∧ VRel φ' v v') ∧ (obj.own = true → o = 0 ∧ fr = (0, 0) ∧ e = obj.elem ∧ (∀ n, k = some n → c.size = n * P.cellsOf e)) ∧ w.heap.size ≤ b)
    (p4 : ∀ b, b < w.heap.size → w'.heap[b]? = w.heap[b]?) (p5 : w.heap.size ≤ w'.heap.size) (p6 : w'.os = w.os ∧ w'.output = w.output ∧ w'.tape = w.tape) {v v' : Value}
    (hput : (st (i + 1)).1 = putA (st i).1 c.dst v) (hv : VRel φ' v v') : Inv P ops nt cs st φ0 w0 D (listed.setIfInBounds i true) (a.put o.dst v') w' (glue φ' φ (st (i + 1)).2.size) m := by
  have hil : i < ops.size := (Array.getElem?_eq_some_iff.1 ho).1
  have hsz : i < listed.size := by rw [I.size]; exact hil
  have hs1 := K.size1 hil
  have hfresh : ∀ id, (st i).2.size ≤ id → id < (st (i + 1)).2.size → φ id = .absent := by
    intro id h1 h2
    cases hs : φ id with
    | absent => rfl
    | _ =>
      rcases I.dom id (by simp [hs]) with h3 | ⟨j, hj, hjn, h3, h4⟩
      · have := K.sizes (Nat.zero_le i) (by omega); omega
      · have hji : j ≠ i := fun e => hun (e ▸ hj)
        rcases Nat.lt_or_ge j i with h | h
        · have := K.sizes (show j + 1 ≤ i by omega) (by omega); omega
        · have := K.sizes (show i + 1 ≤ j by omega) (by omega); omega
  have old : ∀ id, ¬ ((st i).2.size ≤ id ∧ id < (st (i + 1)).2.size) → glue φ' φ (st (i + 1)).2.size id = φ id := by
    intro id h
    unfold glue
    split
    · exact p1 id (by omega)
    · rfl
  have new : ∀ id, (st i).2.size ≤ id → id < (st (i + 1)).2.size → glue φ' φ (st (i + 1)).2.size id = φ' id := by
    intro id _ h2
    unfold glue
    rw [if_pos h2]
  have hle : Le φ (glue φ' φ (st (i + 1)).2.size) := by
    intro id hid
    left
    exact old id (fun h => hid (hfresh id h.1 h.2))
  have hgl : Le φ' (res (glue φ' φ (st (i + 1)).2.size) (st (i + 1)).2.size) := by
    intro id hid
    left
    have hlt : id < (st (i + 1)).2.size := by
      rcases Nat.lt_or_ge id (st (i + 1)).2.size with h | h
      · exact h
      · exact absurd (p2 id h) hid
    unfold res glue
    rw [if_pos hlt, if_pos hlt]
  have hblk : ∀ id b o k, φ id = .live b o k → b < w.heap.size := by
    intro id b o k hl
    obtain ⟨q, obj, c, e, fr, _, _, _, _, _, hb, _⟩ := I.live id b o k hl
    exact (Array.getElem?_eq_some_iff.1 hb).1
  have split3 : ∀ id, ((st i).2.size ≤ id ∧ id < (st (i + 1)).2.size) ∨ ¬ ((st i).2.size ≤ id ∧ id < (st (i + 1)).2.size) := fun id => Classical.em _
  refine ⟨by simp [I.size], I.closed_next ho hr, I.mle, ?_, I.mlast, ?_, I.le.trans hle, ?_, ?_, ?_, ?_, ?_, ?_, Nat.le_trans I.grow p5, ?_, I.tm_next K ho hc hun hr hle hput (hv.mono hgl), by rw [put_size]; exact I.tsz, by rw [put_defers']; exact I.df⟩
  · intro k p hk hpw
    rw [Done.set hsz, ← I.mw k p hk hpw]
    constructor
    · rintro (rfl | h)
      · rw [hc] at hk; cases hk; rw [hw] at hpw; cases hpw
      · exact h
    · exact .inr
  · intro id hid
    rcases split3 id with h | h
    · exact .inr ⟨i, (Done.set hsz).2 (.inl rfl), hil, h.1, h.2⟩
    · rw [old id h] at hid
      rcases I.dom id hid with h | ⟨j, hj, hjn, h1, h2⟩
      · exact .inl h
      · exact .inr ⟨j, (Done.set hsz).2 (.inr hj), hjn, h1, h2⟩
  · intro id b o' k' hl
    rcases split3 id with h | h
    · rw [new id h.1 h.2] at hl
      obtain ⟨hidn, _, h3⟩ := p3 id h.1 h.2
      obtain ⟨obj, c', e', fr', hg, hb, hcells, hown, hbw⟩ := h3 b o' k' hl
      have hgq : ∃ q, m ≤ q ∧ q ≤ ops.size ∧ id < (st q).2.size ∧ (q = m ∨ ∃ j, q = j + 1 ∧ (st j).2.size ≤ id) ∧ (st q).2.get id = some obj ∧ (st (i + 1)).2.size ≤ (st q).2.size := by
        rcases Nat.lt_or_ge (i + 1) m with hm | hm
        · refine ⟨m, Nat.le_refl _, I.mle, Nat.lt_of_lt_of_le h.2 (K.sizes (by omega) I.mle), .inl rfl, ?_, K.sizes (by omega) I.mle⟩
          rw [I.absent id (hfresh id h.1 h.2) (i + 1) m (by omega) (Nat.le_refl _) h.2]; exact hg
        · exact ⟨i + 1, hm, by omega, h.2, .inr ⟨i, rfl, h.1⟩, hg, Nat.le_refl _⟩
      obtain ⟨q, hmq, hqn, hidq, hcase, hgq, hsq⟩ := hgq
      refine ⟨q, obj, c', e', fr', hmq, hqn, hidq, hcase, hgq, hb, fun j v hj => ?_, fun hoo => ⟨hown hoo, .inr (Nat.le_trans I.grow hbw), ?_⟩⟩
      · obtain ⟨h5, v', h6, h7⟩ := hcells j v hj
        exact ⟨h5, v', h6, (h7.mono hgl).mono (res_le hsq)⟩
      · intro id2 b2 o2 k2 hl2 hne
        rcases split3 id2 with h2 | h2
        · have := (p3 id2 h2.1 h2.2).1; omega
        · rw [old id2 h2] at hl2
          have := hblk id2 b2 o2 k2 hl2; omega
    · rw [old id h] at hl
      obtain ⟨q, obj, c', e', fr', hmq, hqn, hidq, hcase, hg, hb, hcells, hown⟩ := I.live id b o' k' hl
      refine ⟨q, obj, c', e', fr', hmq, hqn, hidq, hcase, hg, by rw [p4 b (hblk id b o' k' hl)]; exact hb, fun j v hj => ?_, fun hoo => ⟨(hown hoo).1, (hown hoo).2.1, ?_⟩⟩
      · obtain ⟨h5, v', h6, h7⟩ := hcells j v hj
        exact ⟨h5, v', h6, h7.mono (res_mono hle _)⟩
      · intro id2 b2 o2 k2 hl2 hne
        rcases split3 id2 with h2 | h2
        · rw [new id2 h2.1 h2.2] at hl2
          obtain ⟨_, _, h3⟩ := p3 id2 h2.1 h2.2
          obtain ⟨_, _, _, _, _, _, _, _, hbw⟩ := h3 b2 o2 k2 hl2
          have := hblk id b o' k' hl; omega
        · rw [old id2 h2] at hl2
          exact (hown hoo).2.2 id2 b2 o2 k2 hl2 hne
  · intro id p hd
    rcases split3 id with h | h
    · rw [new id h.1 h.2] at hd
      exact absurd hd ((p3 id h.1 h.2).2.1 p)
    · rw [old id h] at hd
      exact I.dead id p hd
  · intro id hab
    rcases split3 id with h | h
    · exact I.absent id (hfresh id h.1 h.2)
    · rw [old id h] at hab
      exact I.absent id hab
  · intro id hid h0
    have hli : id < (st i).2.size := Nat.lt_of_lt_of_le hid (K.sizes (Nat.zero_le _) (by omega))
    rw [old id (by omega)]
    exact I.zero id hid h0
  · intro id b o' k' h0 hl
    rcases split3 id with h | h
    · rw [new id h.1 h.2] at hl
      obtain ⟨_, _, h3⟩ := p3 id h.1 h.2
      obtain ⟨_, _, _, _, _, _, _, _, hbw⟩ := h3 b o' k' hl
      exact .inr (Nat.le_trans I.grow hbw)
    · rw [old id h] at hl
      exact I.new id b o' k' h0 hl
  · intro b hb hn
    rw [p4 b (Nat.lt_of_lt_of_le hb I.grow), I.keep b hb hn]
  · exact ⟨p6.1.trans I.env.1, p6.2.1.trans I.env.2.1, p6.2.2.trans I.env.2.2⟩

end Go.Ax
