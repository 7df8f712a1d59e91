/-
  AX, PART 14e: regions that draw their order.
-/
import Derived.Test.YtklmapfmilefhaaGreatAxDraw4
set_option linter.unusedSimpArgs false
set_option linter.unusedVariables false
set_option linter.unusedSectionVars false
namespace Go.Ax
variable {P : Program}
theorem compOp_isLoad {op : Op} {aop : AOp} (hc : compOp P op = some aop) (hn : ∀ t x, op ≠ .load t x) : isLoad aop = false := by
  cases op with
  | call c =>
    obtain ⟨cal, args, ats⟩ := c
    cases cal with
    | value f => simp only [compOp, Option.some.injEq] at hc; subst hc; rfl
    | invoke r n => simp only [compOp, Option.some.injEq] at hc; subst hc; rfl
    | builtin b =>
    cases b <;> simp only [compOp, reduceCtorEq, Option.some.injEq] at hc
    case min => subst hc; rfl
    case max => subst hc; rfl
    all_goals
      split at hc
      · split at hc <;> first
          | cases hc; rfl
          | cases hc; done
          | (simp only [Option.map_eq_some_iff] at hc; obtain ⟨_, _, rfl⟩ := hc; rfl)
          | (split at hc <;> first
            | cases hc; rfl
            | cases hc; done
            | (split at hc <;> first
              | cases hc; done
              | (split at hc <;> cases hc; rfl)))
      · cases hc
  | load t x => exact absurd rfl (hn t x)
  | makeFunc fn a b => cases fn <;> simp only [compOp, Option.some.injEq, reduceCtorEq] at hc; subst hc; rfl
  | slice t x lo hi mx =>
    cases mx with
    | some m => simp [compOp] at hc
    | none =>
      simp only [compOp] at hc
      split at hc <;> first
        | cases hc; rfl
        | cases hc; done
        | (simp only [Option.bind_eq_bind, Option.bind_eq_some_iff, Option.some.injEq] at hc; obtain ⟨_, _, rfl⟩ := hc; rfl)
  | build t parts =>
    simp only [compOp, Option.bind_eq_bind, Option.bind_eq_some_iff] at hc
    obtain ⟨z, _, hc⟩ := hc
    split at hc
    · split at hc
      · simp only [Option.bind_eq_some_iff, Option.some.injEq] at hc; obtain ⟨_, _, rfl⟩ := hc; rfl
      · cases hc
    · simp only [Option.bind_eq_some_iff, Option.some.injEq] at hc; obtain ⟨_, _, _, _, rfl⟩ := hc; rfl
    · cases hc
  | buildSlice t len parts =>
    simp only [compOp] at hc
    split at hc
    · simp only [Option.bind_eq_bind, Option.bind_eq_some_iff] at hc
      obtain ⟨_, _, _, _, hc⟩ := hc
      split at hc
      · simp only [Option.bind_eq_some_iff, Option.some.injEq] at hc; obtain ⟨_, _, rfl⟩ := hc; rfl
      · cases hc
    · cases hc
  | makeSlice t l c =>
    simp only [compOp] at hc
    split at hc
    · simp only [Option.bind_eq_bind, Option.bind_eq_some_iff] at hc
      obtain ⟨_, _, _, _, hc⟩ := hc
      split at hc <;> cases hc
      rfl
    · cases hc
  | index t x i =>
    simp only [compOp] at hc
    split at hc <;> first
      | cases hc; rfl
      | cases hc; done
      | (simp only [Option.bind_eq_bind, Option.bind_eq_some_iff, Option.some.injEq] at hc; obtain ⟨_, _, _, _, rfl⟩ := hc; rfl)
  | _ =>
    simp only [compOp, Option.some.injEq, Option.map_eq_some_iff, reduceCtorEq] at hc <;> first
      | (subst hc; rfl)
      | (obtain ⟨_, _, rfl⟩ := hc; rfl)
      | (split at hc <;> first
        | cases hc; rfl
        | cases hc; done
        | (simp only [Option.map_eq_some_iff] at hc; obtain ⟨_, _, rfl⟩ := hc; rfl)
        | (split at hc <;> first
          | cases hc; rfl
          | cases hc; done
          | (simp only [Option.map_eq_some_iff] at hc; obtain ⟨_, _, rfl⟩ := hc; rfl)
          | (split at hc <;> first
            | cases hc; rfl
            | cases hc; done
            | (split at hc <;> first | cases hc; done | (cases hc; rfl)))))

theorem compOp_load {op : Op} {sz : Option Nat} {x : Operand} (hc : compOp P op = some (.load sz x)) : ∃ t, op = .load t x := by
  by_cases h : ∃ t y, op = .load t y
  · obtain ⟨t, y, rfl⟩ := h
    simp only [compOp, Option.map_eq_some_iff] at hc
    obtain ⟨s, _, he⟩ := hc
    cases he
    exact ⟨t, rfl⟩
  · have := compOp_isLoad hc (fun t y e => h ⟨t, y, e⟩)
    cases this

section
variable {cf : CallF} {ops : Array Oper} {nt : Nat} {cs : List AOper} {st : Nat → Tmps × AHeap} {hs : List (Nat × AHeap × AHeap)} {ids : List (Nat × List Nat)}
variable {φ0 : Phi} {w0 : World} {D : List Deferred} {listed : Array Bool} {a : Act} {w : World} {φ : Phi} {m : Nat}

/-- The heap for an operation that is no writer: what it loads, and else no contents. -/
def bare (φ : Phi) (σ : AHeap) (ld : Option Nat) : AHeap :=
  mkHeap (fun id => match φ id with
    | .live _ _ _ => some (if ld = some id then ⟨((σ.get id).map (·.cells)).getD [], 0, false⟩ else ⟨[], 0, false⟩)
    | _ => none) σ.size

theorem bare_get (φ : Phi) (σ : AHeap) (ld : Option Nat) (id : Nat) (h : id < σ.size) : (bare φ σ ld).get id = match φ id with
    | .live _ _ _ => some (if ld = some id then ⟨((σ.get id).map (·.cells)).getD [], 0, false⟩ else ⟨[], 0, false⟩)
    | _ => none := by
  unfold bare
  rw [mkHeap_get, if_pos h]

/-- No block of the bare heap is owned. -/
theorem bare_owned (φ : Phi) (σ : AHeap) (ld : Option Nat) (b : Nat) : ¬ Owned φ (bare φ σ ld) b := by
  rintro ⟨id, o, k, obj, hl, hg, ho⟩
  have hlt : id < σ.size := by
    rcases Nat.lt_or_ge id σ.size with h | h
    · exact h
    · unfold bare at hg
      rw [mkHeap_get, if_neg (by omega)] at hg
      cases hg
  rw [bare_get φ σ ld id hlt, hl] at hg
  simp only [Option.some.injEq] at hg
  subst hg
  split at ho <;> cases ho

theorem Inv.mle_of (K : Ctx P cf ops nt cs st hs ids) (I : Inv P ops nt cs st φ0 w0 D listed a w φ m) {i : Nat} (hq : ∀ (k : Nat) (p : AOper), cs[k]? = some p → isWriter p.op = true → (Done listed k ↔ k < i)) :
    m ≤ i ∧ ∀ (k : Nat) (p : AOper), m ≤ k → k < i → cs[k]? = some p → isWriter p.op = false := by
  refine ⟨?_, fun k p h1 h2 hk => ?_⟩
  · rcases I.mlast with rfl | ⟨k, c, rfl, hk, hw⟩
    · exact Nat.zero_le _
    · have := (hq k c hk hw).1 ((I.mw k c hk hw).2 (by omega))
      omega
  · cases hw : isWriter p.op with
    | false => rfl
    | true =>
      have := (I.mw k p hk hw).1 ((hq k p hk hw).2 h2)
      omega

theorem valBnd_rel {φ : Phi} {n : Nat} : ∀ {v v' : Value}, VRel φ v v' → valBnd n v = true → VRel (res φ n) v v'
  | _, _, .bool b, _ => .bool b
  | _, _, .int k m, _ => .int k m
  | _, _, .string s, _ => .string s
  | _, _, .ptrN, _ => .ptrN
  | _, _, .ptr h, hb => .ptr (by
      simp only [valBnd, Nat.blt_eq] at hb
      unfold ARel res at *
      rw [if_pos hb]; exact h)
  | _, _, .slcN, _ => .slcN
  | _, _, .slc h0 hc h1, hb => .slc (by
      simp only [valBnd, Nat.blt_eq] at hb
      refine h0.imp id (fun h => ?_)
      unfold ARel res at *
      rw [if_pos hb]; exact h) hc (fun e => by
      simp only [valBnd, Nat.blt_eq] at hb
      have h := h1 e
      unfold FlagRel res at *
      rw [if_pos hb]; exact h)
  | _, _, .func f (xs := xs) (xs' := xs') (ys := ys) (ys' := ys') hx hy, hb => by
      simp only [valBnd, Bool.and_eq_true, Array.isEmpty_iff] at hb
      obtain ⟨rfl, rfl⟩ := hb
      refine .func f ?_ ?_
      · generalize xs'.toList = l at hx; cases hx; exact .nil
      · generalize ys'.toList = l at hy; cases hy; exact .nil
  | _, _, .nilFunc, _ => .nilFunc
  | _, _, .nilIface, _ => .nilIface
  | _, _, .iface t h, hb => .iface t (valBnd_rel h (by simpa [valBnd] using hb))
  | _, _, .agg _ _, hb => by simp [valBnd] at hb
  | _, _, .tuple _, hb => by simp [valBnd] at hb

theorem res_res_le {φ : Phi} {n m : Nat} : Le (res (res φ n) m) (res φ m) := by
  intro i hi
  left
  unfold res at *
  by_cases h1 : i < m
  · simp only [h1, if_true] at hi ⊢
    by_cases h2 : i < n
    · simp [h2]
    · simp [h2] at hi
  · simp [h1] at hi

/-- What an operation may load, when it comes up. -/
theorem Inv.loads (K : Ctx P cf ops nt cs st hs ids) (I : Inv P ops nt cs st φ0 w0 D listed a w φ m) {i : Nat} {o : Oper} {c : AOper} (ho : ops[i]? = some o) (hc : cs[i]? = some c) (hun : ¬ Done listed i) (hr : ∀ e ∈ o.after.toList, Region.binds .any e = true → Done listed e.on)
    (hld : isLoad c.op = true) (hw : isWriter c.op = false) (hchk : c.chk ≠ [] → (loadsAt (opd (st i).1) c.op, c.chk) ∈ ids ∧ chkFine c.chk (st i).2 (loadsAt (opd (st i).1) c.op) = true) {id : Nat} (hid : id = loadsAt (opd (st i).1) c.op) (hlt : id < (st i).2.size) {ob : AObj} (hob : (st i).2.get id = some ob) (hne : φ id ≠ .absent) :
    ∃ b o k c e fr, φ id = .live b o k ∧ w.heap[b]? = some (.cells c e fr) ∧ (∀ (j : Nat) (v : Value), ob.cells[j]? = some v → v.oneCell' = true ∧ ∃ v' : Value, c[o + j]? = some v' ∧ VRel (res φ (st i).2.size) v v') := by
  have hil : i < ops.size := (Array.getElem?_eq_some_iff.1 ho).1
  have hqj : ∀ (k : Nat) (p : AOper), cs[k]? = some p → isWriter p.op = true → k ∉ c.chk → (Done listed k ↔ k < i) := by
    intro k p hk hpw hkj
    have hki : i ≠ k := fun e => by subst e; rw [hc] at hk; cases hk; rw [hw] at hpw; cases hpw
    have hkl : k < ops.size := by rw [← K.len]; exact (List.getElem?_eq_some_iff.1 hk).1
    exact I.order ho hun hr (show ops[k]? = some ops[k] by simp [hkl]) hki (K.chk i k c p hc hk hld hkj hpw)
  by_cases hck : c.chk = []
  · have hq : ∀ (k : Nat) (p : AOper), cs[k]? = some p → isWriter p.op = true → (Done listed k ↔ k < i) := fun k p hk hpw => hqj k p hk hpw (by rw [hck]; simp)
    obtain ⟨hmi, hno⟩ := I.mle_of K hq
    have hR := I.heapAt K (c := c) hil hmi hno
    cases hs : φ id with
    | absent => exact absurd hs hne
    | dead p =>
      have := hR.dead id p (by unfold res; rw [if_pos hlt]; exact hs)
      rw [hob] at this; cases this
    | live b o' k =>
      obtain ⟨obj, c', e, fr, h1, h2, h3, _⟩ := hR.live id b o' k (by unfold res; rw [if_pos hlt]; exact hs)
      rw [hob] at h1; cases h1
      exact ⟨b, o', k, c', e, fr, rfl, h2, h3⟩
  · obtain ⟨hin, hfine⟩ := hchk hck
    rw [← hid] at hin hfine
    have h0lt : id < (st 0).2.size := (K.ok _ hin).1
    -- between here and there only such writers stand
    have hmid : (st m).2.get id = some ob := by
      rcases Nat.le_total m i with hmi | him
      · have := K.checked hin i hmi (by omega) (fun k p h1 h2 hk hpw => by
          by_cases hkj : k ∈ c.chk
          · exact hkj
          · have hd := (hqj k p hk hpw hkj).2 h2
            have := (I.mw k p hk hpw).1 hd
            omega)
        rw [← this]; exact hob
      · have := K.checked hin m him I.mle (fun k p h1 h2 hk hpw => by
          by_cases hkj : k ∈ c.chk
          · exact hkj
          · have hd := (I.mw k p hk hpw).2 h2
            have := (hqj k p hk hpw hkj).1 hd
            omega)
        rw [this]; exact hob
    cases hs : φ id with
    | absent => exact absurd hs hne
    | dead p =>
      have := (I.dead id p hs).2
      rw [hmid] at this; cases this
    | live b o' k =>
      obtain ⟨q, obj, c', e, fr, hmq, hqn, hidq, hcase, hg, hb, hcells, _⟩ := I.live id b o' k hs
      have hqm : q = m := by
        rcases hcase with h | ⟨j, hj, hge⟩
        · exact h
        · have := K.sizes (Nat.zero_le j) (by omega)
          omega
      subst hqm
      rw [hmid] at hg; cases hg
      refine ⟨b, o', k, c', e, fr, rfl, hb, fun j v hj => ?_⟩
      obtain ⟨h1, v', h2, h3⟩ := hcells j v hj
      refine ⟨h1, v', h2, ?_⟩
      have hbd : valBnd (st i).2.size v = true := by
        unfold chkFine at hfine
        rw [hob] at hfine
        have he : c.chk.isEmpty = false := by cases hcc : c.chk with | nil => exact absurd hcc hck | cons _ _ => rfl
        rw [he, Bool.false_or, List.all_eq_true] at hfine
        exact hfine v (List.mem_of_getElem? hj)
      exact (valBnd_rel h3 hbd).mono res_res_le

/-- The relation to the bare heap. -/
theorem Inv.bareR (K : Ctx P cf ops nt cs st hs ids) (I : Inv P ops nt cs st φ0 w0 D listed a w φ m) {i : Nat} {ld : Option Nat}
    (hl : ∀ id, ld = some id → id < (st i).2.size → ∀ b o k, φ id = .live b o k → ∃ c e fr, w.heap[b]? = some (.cells c e fr) ∧ (∀ (j : Nat) (v : Value), ((((st i).2.get id).map (·.cells)).getD [])[j]? = some v → v.oneCell' = true ∧ ∃ v' : Value, c[o + j]? = some v' ∧ VRel (res φ (st i).2.size) v v')) :
    R P (res φ (st i).2.size) (bare (res φ (st i).2.size) (st i).2 ld) w := by
  refine ⟨fun id h => ?_, fun id p h => ?_, fun id b o k h => ?_, fun id id2 b o k b2 o2 k2 obj h h2 hg ho _ => ?_⟩
  · unfold bare at h; rw [mkHeap_size] at h
    unfold res; rw [if_neg (by omega)]
  · have hlt : id < (st i).2.size := by
      unfold res at h
      split at h
      · assumption
      · cases h
    rw [bare_get _ _ _ _ hlt, h]
  · have hlt : id < (st i).2.size := by
      unfold res at h
      split at h
      · assumption
      · cases h
    have hφ : φ id = .live b o k := by unfold res at h; rwa [if_pos hlt] at h
    rw [bare_get _ _ _ _ hlt, h]
    by_cases hld : ld = some id
    · obtain ⟨c, e, fr, h1, h2⟩ := hl id hld hlt b o k hφ
      exact ⟨_, c, e, fr, rfl, h1, by simpa [hld] using h2, by simp [hld]⟩
    · obtain ⟨q, obj, c, e, fr, _, _, _, _, _, hb, _⟩ := I.live id b o k hφ
      exact ⟨_, c, e, fr, rfl, hb, by simp [hld], by simp [hld]⟩
  · exact absurd ⟨id, o, k, obj, h, hg, ho⟩ (bare_owned _ _ _ b)

theorem Inv.step (K : Ctx P cf ops nt cs st hs ids) (hR0 : R P φ0 (st 0).2 w0) (I : Inv P ops nt cs st φ0 w0 D listed a w φ m) {Q : Exit → Act → World → Prop} {i : Nat} (hi : i ∈ Region.ready .any ops listed) {next : Act → World → Prop}
    (hn : ∀ a' w' φ' m', Inv P ops nt cs st φ0 w0 D (listed.setIfInBounds i true) a' w' φ' m' → next a' w') : wpOp P ops Q i next a w := by
  obtain ⟨hun0, o, ho, hr0⟩ := mem_ready.1 hi
  have hil : i < ops.size := (Array.getElem?_eq_some_iff.1 ho).1
  have hun : ¬ Done listed i := by
    unfold Done
    have : listed.getD i true = listed.getD i false := by
      have : i < listed.size := by rw [I.size]; exact hil
      simp [this]
    rw [← this, hun0]; simp
  have hr : ∀ e ∈ o.after.toList, Region.binds .any e = true → Done listed e.on := fun e he hb => hr0 e (by simpa using he) hb
  obtain ⟨_, c, _, hc⟩ := K.get hil
  obtain ⟨hop, hok, hdst, hcd, hcg⟩ := K.spec i o c ho hc
  have hwant := I.wanted K ho hc hun hr
  have hops := I.opds K ho hc hun hr
  unfold wpOp
  simp only [ho, ← hwant]
  cases hw : isWriter c.op with
  | true =>
    have hq : ∀ (k : Nat) (p : AOper), cs[k]? = some p → isWriter p.op = true → (Done listed k ↔ k < i) := by
      intro k p hk hpw
      by_cases hki : i = k
      · subst hki; exact ⟨fun h => absurd h hun, fun h => absurd h (Nat.lt_irrefl _)⟩
      · have hkl : k < ops.size := by rw [← K.len]; exact (List.getElem?_eq_some_iff.1 hk).1
        exact I.order ho hun hr (show ops[k]? = some ops[k] by simp [hkl]) hki (K.wrs i k c p hc hk hw hpw)
    obtain ⟨hmi, hno⟩ := I.mle_of K hq
    have hR := I.heapAt K (c := c) hil hmi hno
    rcases K.tr.step i c hc with ⟨hwa, v, h2, hput, _⟩ | ⟨hwa, h2, hput⟩
    · rw [hwa, if_pos rfl]
      refine .inl (op2_sound K.snd hop hops hR h2 ?_)
      intro φ' w' v' hp hv
      exact hn _ _ _ _ (I.next_writer K (fun i hi => hR0.bnd i hi) ho hc hun hr hw hmi hno hp hput hv)
    · rw [hwa, if_neg (by simp)]
      have hp : Post P (res φ (st i).2.size) (st i).2 w (res φ (st i).2.size) (st (i + 1)).2 w := by rw [h2]; exact .refl hR
      exact hn _ _ _ _ (I.next_writer K (fun i hi => hR0.bnd i hi) ho hc hun hr hw hmi hno hp hput (undef_rel _))
  | false =>
    rcases K.tr.step i c hc with ⟨hwa, v, h2, hput, _, hchk⟩ | ⟨hwa, h2, hput⟩
    · rw [hwa, if_pos rfl]
      have hnc : isCallA c.op = false := by cases hcop : c.op <;> simp_all [isWriter, isCallA]
      rw [op2_op1 hnc] at h2
      -- the block that is loaded
      have hload : isLoad c.op = true → loadsAt (opd (st i).1) c.op < (st i).2.size ∧ ∃ ob, (st i).2.get (loadsAt (opd (st i).1) c.op) = some ob ∧ φ (loadsAt (opd (st i).1) c.op) ≠ .absent := by
        intro hld
        cases hcop : c.op with
        | load sz x =>
          rw [hcop] at h2
          simp only [op1] at h2
          split at h2
          · rename_i ad had
            have hx : x ∈ o.op.operands.toList := by
              rw [hcop] at hop
              obtain ⟨t, hoo⟩ := compOp_load hop
              rw [hoo]
              simp [Op.operands]
            have hrel := hops x hx
            rw [had] at hrel
            generalize a.eval x = y at hrel
            cases hrel with
            | ptr ha =>
              have hd := ha.dom
              simp only [loadsAt, had]
              unfold res at hd
              split at hd
              · rename_i hlt
                refine ⟨hlt, ?_⟩
                split at h2
                · rename_i u hu
                  have : ∃ ob, (st i).2.get ad.block = some ob := by
                    cases hg : (st i).2.get ad.block with
                    | some ob => exact ⟨ob, rfl⟩
                    | none => cases sz <;> simp [AHeap.read, AHeap.cell, AHeap.cells, hg] at hu
                  obtain ⟨ob, hob⟩ := this
                  exact ⟨ob, hob, hd⟩
                · cases h2
              · exact absurd rfl hd
          · cases h2
        | _ => simp [hcop, isLoad] at hld
      let ld : Option Nat := if isLoad c.op = true then some (loadsAt (opd (st i).1) c.op) else none
      have hRb : R P (res φ (st i).2.size) (bare (res φ (st i).2.size) (st i).2 ld) w := by
        refine I.bareR K ?_
        intro id hid hlt b o' k hl
        have hld : isLoad c.op = true := by
          cases h : isLoad c.op with
          | true => rfl
          | false => simp [ld, h] at hid
        simp only [ld, hld, if_true, Option.some.injEq] at hid
        obtain ⟨_, ob, hob, hne⟩ := hload hld
        rw [hid] at hob hne
        obtain ⟨b', o'', k', c', e, fr, h3, h4, h5⟩ := I.loads K ho hc hun hr hld hw hchk hid.symm hlt hob hne
        rw [hl] at h3
        injection h3 with e1 e2 e3
        subst e1; subst e2; subst e3
        exact ⟨c', e, fr, h4, by rw [hob]; simpa using h5⟩
      have hbs : (bare (res φ (st i).2.size) (st i).2 ld).size = (st i).2.size := by unfold bare; rw [mkHeap_size]
      have hind := op_indep hw h2 hbs (by
        intro hld
        obtain ⟨hlt, ob, hob, hne⟩ := hload hld
        obtain ⟨b', o'', k', c', e, fr, h3, h4, h5⟩ := I.loads K ho hc hun hr hld hw hchk rfl hlt hob hne
        rw [bare_get _ _ _ _ hlt]
        have : res φ (st i).2.size (loadsAt (opd (st i).1) c.op) = .live b' o'' k' := by unfold res; rw [if_pos hlt]; exact h3
        rw [this, hob]
        simp [ld, hld])
      -- run it over the bare heap
      have fin : ∀ σb, op1 (opd (st i).1) (bare (res φ (st i).2.size) (st i).2 ld) c.op = some (v, σb) → σb.size = (st (i + 1)).2.size → (∀ id, id < (st i).2.size → σb.get id = (bare (res φ (st i).2.size) (st i).2 ld).get id) →
          (∀ id, (st i).2.size ≤ id → id < (st (i + 1)).2.size → id = (st i).2.size ∧ σb.get id = (st (i + 1)).2.get id ∧ (st (i + 1)).2.get id ≠ none) → o.wp P a w next Q := by
        intro σb h1 hsb hob hnb
        have h1' : op2 cf (opd (st i).1) (bare (res φ (st i).2.size) (st i).2 ld) c.op = some (v, σb) := by rw [op2_op1 hnc]; exact h1
        refine op2_sound K.snd hop hops hRb h1' ?_
        intro φ' w' v' hp hv
        have hown : ∀ b, ¬ Owned (res φ (st i).2.size) (bare (res φ (st i).2.size) (st i).2 ld) b := bare_owned _ _ _
        have hp1 : ∀ id, id < (st i).2.size → φ' id = φ id := by
          intro id hlt
          cases hs : φ id with
          | absent => exact (hp.abs id (by rw [hbs]; exact hlt) (by unfold res; rw [if_pos hlt]; exact hs)).1
          | dead p =>
            rcases hp.le id (by unfold res; rw [if_pos hlt, hs]; simp) with e | ⟨e, u⟩
            · unfold res at e; rw [if_pos hlt, hs] at e; exact e
            · cases p with
              | none => exact e
              | some b => exact absurd (by unfold res; rw [if_pos hlt, hs]) (u b)
          | live b o' k =>
            rcases hp.le id (by unfold res; rw [if_pos hlt, hs]; simp) with e | ⟨e, _⟩
            · unfold res at e; rw [if_pos hlt, hs] at e; exact e
            · have := hp.rel.dead id _ e
              have hrl : res φ (st i).2.size id = .live b o' k := by unfold res; rw [if_pos hlt]; exact hs
              rw [hob id hlt, bare_get _ _ _ _ hlt, hrl] at this
              cases this
        refine hn _ _ _ _ (I.next_quiet K ho hc hun hr hw hp1 (fun id h => hp.rel.bnd id (by rw [hsb]; exact h)) ?_ ?_ hp.grow hp.env hput hv)
        · intro id h1 h2
          obtain ⟨h3, h4, h5⟩ := hnb id h1 h2
          refine ⟨h3, fun p e => h5 (by rw [← h4]; exact hp.rel.dead id p e), fun b o' k hl => ?_⟩
          obtain ⟨obj, c', e, fr, g1, g2, g3, g4⟩ := hp.rel.live id b o' k hl
          refine ⟨obj, c', e, fr, by rw [← h4]; exact g1, g2, g3, g4, ?_⟩
          have habs : res φ (st i).2.size id = .absent := by unfold res; rw [if_neg (by omega)]
          rcases hp.new id b o' k habs hl with h | h
          · exact absurd h (hown b)
          · exact h
        · intro b hb
          exact hp.keep b hb (hown b)
      rcases hind with ⟨he, h1⟩ | ⟨ob, he, h1⟩
      · refine .inl (fin _ h1 (by rw [hbs, he]) (fun id _ => rfl) (fun id h3 h4 => ?_))
        rw [he] at h4; omega
      · refine .inl (fin _ h1 (by rw [AHeap.size_push, hbs, he, AHeap.size_push]) (fun id hlt => ?_) (fun id h3 h4 => ?_))
        · rw [AHeap.get_push, hbs, if_neg (by omega)]
        · rw [he, AHeap.size_push] at h4
          have : id = (st i).2.size := by omega
          subst this
          refine ⟨rfl, ?_, ?_⟩
          · rw [AHeap.get_push, hbs, if_pos rfl, he, AHeap.get_push, if_pos rfl]
          · rw [he, AHeap.get_push, if_pos rfl]; simp
    · rw [hwa, if_neg (by simp)]
      refine hn _ _ _ _ (I.next_quiet (φ' := res φ (st i).2.size) (v := undef) (v' := undef) K ho hc hun hr hw (fun id h => by unfold res; rw [if_pos h]) (fun id h => by rw [h2] at h; unfold res; rw [if_neg (by omega)]) (fun id h3 h4 => by rw [h2] at h4; omega) (fun _ _ => rfl) (Nat.le_refl _) ⟨rfl, rfl, rfl⟩ hput (undef_rel _))

/-! ### The end -/

def leftN (listed : Array Bool) : Nat → Nat
  | 0 => 0
  | n + 1 => leftN listed n + (if listed.getD n false = true then 0 else 1)

theorem leftN_zero {listed : Array Bool} : ∀ n, leftN listed n = 0 → ∀ i, i < n → Done listed i
  | 0, _, i, hi => by omega
  | n + 1, h, i, hi => by
    simp only [leftN] at h
    by_cases hn : listed.getD n false = true
    · by_cases hin : i = n
      · subst hin; exact hn
      · exact leftN_zero n (by rw [if_pos hn] at h; omega) i (by omega)
    · rw [if_neg hn] at h; omega

theorem leftN_set {listed : Array Bool} {i : Nat} (hi : i < listed.size) (hun : ¬ Done listed i) : ∀ n, i < n → leftN (listed.setIfInBounds i true) n + 1 = leftN listed n
  | 0, h => by omega
  | n + 1, h => by
    have same : ∀ m, m ≤ i → leftN (listed.setIfInBounds i true) m = leftN listed m := by
      intro m
      induction m with
      | zero => intro _; rfl
      | succ m ih =>
        intro hm
        simp only [leftN]
        rw [ih (by omega), getD_set_ne false (by omega : i ≠ m)]
    simp only [leftN]
    by_cases hin : i = n
    · subst hin
      rw [same i (Nat.le_refl _)]
      have h1 : (listed.setIfInBounds i true).getD i false = true := (Done.set hi).2 (.inl rfl)
      rw [if_pos h1, if_neg (show ¬ (listed.getD i false = true) from hun)]
    · rw [getD_set_ne false hin]
      have := leftN_set hi hun n (by omega)
      omega

theorem leftN_start (N : Nat) : ∀ n, n ≤ N → leftN (Array.replicate N false) n = n
  | 0, _ => rfl
  | n + 1, h => by
    simp only [leftN]
    rw [leftN_start N n (by omega), if_neg (by simp [Array.getD_eq_getD_getElem?, Array.getElem?_replicate]; split <;> simp)]

theorem Inv.finish (K : Ctx P cf ops nt cs st hs ids) (hR0 : R P φ0 (st 0).2 w0) (I : Inv P ops nt cs st φ0 w0 D listed a w φ m) (hall : ∀ i, i < ops.size → Done listed i) :
    Post P φ0 (st 0).2 w0 φ (st ops.size).2 w ∧ TRel φ (st ops.size).1 a.tmps := by
  have hno : ∀ (k : Nat) (p : AOper), m ≤ k → k < ops.size → cs[k]? = some p → isWriter p.op = false := by
    intro k p h1 h2 hk
    cases hw : isWriter p.op with
    | false => rfl
    | true => have := (I.mw k p hk hw).1 (hall k h2); omega
  have hlt : ∀ id, φ id ≠ .absent → id < (st ops.size).2.size := by
    intro id hid
    rcases I.dom id hid with h | ⟨j, _, hj, _, h⟩
    · exact Nat.lt_of_lt_of_le h (K.sizes (Nat.zero_le _) (Nat.le_refl _))
    · exact Nat.lt_of_lt_of_le h (K.sizes (by omega) (Nat.le_refl _))
  have hlive : ∀ id b o k, φ id = .live b o k → ∃ obj c e fr, (st ops.size).2.get id = some obj ∧ w.heap[b]? = some (.cells c e fr) ∧
      (∀ (j : Nat) (v : Value), obj.cells[j]? = some v → v.oneCell' = true ∧ ∃ v' : Value, c[o + j]? = some v' ∧ VRel φ v v') ∧
      (obj.own = true → (o = 0 ∧ fr = (0, 0) ∧ e = obj.elem ∧ (∀ n, k = some n → c.size = n * P.cellsOf e)) ∧ (Owned φ0 (st 0).2 b ∨ w0.heap.size ≤ b) ∧ ∀ id2 b2 o2 k2, φ id2 = .live b2 o2 k2 → id2 ≠ id → b2 ≠ b) := by
    intro id b o k hl
    obtain ⟨q, obj, c, e, fr, hmq, hqn, hidq, hcase, hg, hb, hcells, hown⟩ := I.live id b o k hl
    refine ⟨obj, c, e, fr, by rw [K.same hqn (Nat.le_refl _) (fun k p h1 h2 => hno k p (by omega) h2) hidq]; exact hg, hb, fun j v hj => ?_, hown⟩
    obtain ⟨h1, v', h2, h3⟩ := hcells j v hj
    exact ⟨h1, v', h2, h3.mono res_le_self⟩
  refine ⟨⟨K.sizes (Nat.zero_le _) (Nat.le_refl _), I.le, ?_, ⟨?_, ?_, ?_, ?_⟩, ?_, I.new, I.keep, I.grow, I.env⟩, ?_⟩
  · intro id hid h0
    have hz := I.zero id hid h0
    refine ⟨hz, ?_⟩
    have e1 := I.absent id hz 0 m (Nat.zero_le _) (Nat.le_refl _) hid
    have e2 := K.same I.mle (Nat.le_refl _) hno (Nat.lt_of_lt_of_le hid (K.sizes (Nat.zero_le _) I.mle))
    rw [e2, e1]
  · intro id hid
    cases hs : φ id with
    | absent => rfl
    | _ => have := hlt id (by simp [hs]); omega
  · intro id p hd
    obtain ⟨h1, h2⟩ := I.dead id p hd
    rw [K.same I.mle (Nat.le_refl _) hno h1]; exact h2
  · intro id b o k hl
    obtain ⟨obj, c, e, fr, h1, h2, h3, h4⟩ := hlive id b o k hl
    exact ⟨obj, c, e, fr, h1, h2, h3, fun ho => (h4 ho).1⟩
  · intro id id2 b o k b2 o2 k2 obj hl hl2 hg ho hne
    obtain ⟨obj', c, e, fr, h1, h2, h3, h4⟩ := hlive id b o k hl
    rw [hg] at h1; cases h1
    exact Ne.symm ((h4 ho).2.2 id2 b2 o2 k2 hl2 (Ne.symm hne))
  · rintro b ⟨id, o, k, obj, hl, hg, ho⟩
    obtain ⟨obj', c, e, fr, h1, h2, h3, h4⟩ := hlive id b o k hl
    rw [hg] at h1; cases h1
    exact (h4 ho).2.1
  · intro t
    obtain ⟨q, hq, hcase, hv⟩ := I.tm t
    have : (st ops.size).1.at t = (st q).1.at t := by
      refine K.same_tmp hq (Nat.le_refl _) (fun k p h1 h2 hp hd => ?_)
      rcases hcase with ⟨rfl, hn⟩ | ⟨j, p', rfl, hp', hpd, hdone, hmax⟩
      · exact hn k p hp hd (hall k h2)
      · have := hmax k p hp hd (hall k h2); omega
    rw [this]
    exact hv.mono res_le_self

theorem Inv.any (K : Ctx P cf ops nt cs st hs ids) (hR0 : R P φ0 (st 0).2 w0) {Q : Exit → Act → World → Prop}
    (hQ : ∀ φ' a' w', Post P φ0 (st 0).2 w0 φ' (st ops.size).2 w' → TRel φ' (st ops.size).1 a'.tmps → nt ≤ a'.tmps.size → a'.defers = D → Q .normal a' w') :
    ∀ (fuel : Nat) (listed : Array Bool) (a : Act) (w : World) (φ : Phi) (m : Nat), Inv P ops nt cs st φ0 w0 D listed a w φ m → leftN listed ops.size = fuel → wpAny P .any ops Q fuel listed a w
  | 0, listed, a, w, φ, m, I, hf => by
    have hall := leftN_zero _ hf
    refine ⟨?_, ?_⟩
    · cases hrd : Region.ready .any ops listed with
      | nil => rfl
      | cons i rest =>
        obtain ⟨hun, o, ho, _⟩ := mem_ready.1 (show i ∈ Region.ready .any ops listed by rw [hrd]; simp)
        have hil : i < ops.size := (Array.getElem?_eq_some_iff.1 ho).1
        have hd := hall i hil
        unfold Done at hd
        have hsz : i < listed.size := by rw [I.size]; exact hil
        simp [hsz] at hd hun
        rw [hd] at hun; cases hun
    · obtain ⟨hp, ht⟩ := I.finish K hR0 hall
      exact hQ _ _ _ hp ht I.tsz I.df
  | fuel + 1, listed, a, w, φ, m, I, hf => by
    refine ⟨fun hrd => ?_, fun i hi => ?_⟩
    · -- nothing may come up: all is done
      have hall : ∀ i, i < ops.size → Done listed i := by
        intro i
        induction i using Nat.strongRecOn with
        | _ i ih =>
          intro hil
          cases hd : listed.getD i false with
          | true => exact hd
          | false =>
            exfalso
            have hsz : i < listed.size := by rw [I.size]; exact hil
            have : i ∈ Region.ready .any ops listed := by
              refine mem_ready.2 ⟨by simp [hsz] at hd ⊢; exact hd, ops[i], by simp [hil], fun e he hb => ?_⟩
              have hlt := K.edges i ops[i] (by simp [hil]) e (by simpa using he) hb
              exact ih e.on hlt (by omega)
            rw [hrd] at this; cases this
      obtain ⟨hp, ht⟩ := I.finish K hR0 hall
      exact hQ _ _ _ hp ht I.tsz I.df
    · refine I.step K hR0 hi ?_
      intro a' w' φ' m' I'
      refine Inv.any K hR0 hQ fuel _ a' w' φ' m' I' ?_
      obtain ⟨hun, o, ho, _⟩ := mem_ready.1 hi
      have hil : i < ops.size := (Array.getElem?_eq_some_iff.1 ho).1
      have hsz : i < listed.size := by rw [I.size]; exact hil
      have hud : ¬ Done listed i := by
        unfold Done
        simp [hsz] at hun ⊢
        exact hun
      have := leftN_set hsz hud ops.size hil
      omega

end

theorem compOpers_get {ops : List Oper} {nt : Nat} : ∀ {l : List Oper} {cs : List AOper}, compOpers P ops nt l = some cs → cs.length = l.length ∧ ∀ (i : Nat) (o : Oper) (c : AOper), l[i]? = some o → cs[i]? = some c → compOper P ops nt o = some c
  | [], cs, h => by
    simp only [compOpers, Option.some.injEq] at h; subst h
    exact ⟨rfl, fun i o c h => by simp at h⟩
  | o :: l, cs, h => by
    simp only [compOpers] at h
    split at h
    · rename_i x r hx hr
      cases h
      obtain ⟨h1, h2⟩ := compOpers_get hr
      refine ⟨by simp [h1], fun i o' c' ho hc => ?_⟩
      cases i with
      | zero => simp at ho hc; subst ho; subst hc; exact hx
      | succ i => exact h2 i o' c' (by simpa using ho) (by simpa using hc)
    · cases h

theorem mem_zipIdx_get {α : Type} {l : List α} {i : Nat} {x : α} (h : l[i]? = some x) : (x, i) ∈ l.zipIdx := by
  rw [List.mem_zipIdx_iff_getElem?]; simpa using h

theorem dregion_sound {cf : CallF} (hcf : SndF P cf) (hm : P.follows .mixedOrders = true) {id : Nat} {ops : Array Oper} {nt : Nat} {c : ACode} (hc : compC P nt (.region id ops true) = some c) {n : Nat} {τ : Tmps} {σ : AHeap} {e : AExit} {τ' : Tmps} {σ' : AHeap}
    (he : evalC cf n c τ σ = some (e, τ', σ')) {φ : Phi} {a : Act} {w : World} (hR : R P φ σ w) (hT : TRel φ τ a.tmps) (hs : nt ≤ a.tmps.size) {Q : Exit → Act → World → Prop}
    (hQ : ∀ φ' a' w', Post P φ σ w φ' σ' w' → TRel φ' τ' a'.tmps → nt ≤ a'.tmps.size → a'.defers = a.defers → e = .normal → Q .normal a' w') : (Code.region id ops true).wp P Q a w := by
  simp only [compC] at hc
  split at hc
  · rename_i cs0 hcs0
    split at hc
    · rename_i hb
      simp only [Bool.and_eq_true] at hb
      obtain ⟨⟨hb1, hb2⟩, hb3⟩ := hb
      cases hc
      simp only [evalC] at he
      split at he
      · rename_i τ1 σ1 hs1 ids1 hev
        rw [Bool.cond_eq_ite] at he
        split at he
        · rename_i hok
          simp only [Option.some.injEq, Prod.mk.injEq] at he
          obtain ⟨rfl, rfl, rfl⟩ := he
          obtain ⟨st, h0, hN, htr, _, _⟩ := trace_of _ _ _ _ _ _ _ _ _ _ hev
          obtain ⟨hlen, hget⟩ := compOpers_get hcs0
          have hlen' : cs0.length = ops.size := by simpa using hlen
          have hcs : ∀ (i : Nat) (c : AOper), (cs0.zipIdx.map fun (c, i) => ({ c with chk := cond (isLoad c.op) (needsChk cs0 (masks ops.toList) i) [] } : AOper))[i]? = some c → ∃ c0, cs0[i]? = some c0 ∧ c = { c0 with chk := cond (isLoad c0.op) (needsChk cs0 (masks ops.toList) i) [] } := by
            intro i c hci
            rw [List.getElem?_map, List.getElem?_zipIdx] at hci
            cases h : cs0[i]? with
            | none => simp [h] at hci
            | some c0 => simp [h] at hci; exact ⟨c0, rfl, hci.symm⟩
          have K : Ctx P cf ops nt (cs0.zipIdx.map fun (c, i) => ({ c with chk := cond (isLoad c.op) (needsChk cs0 (masks ops.toList) i) [] } : AOper)) st hs1 ids1 := by
            refine ⟨by simp [hlen'], ?_, ?_, ?_, ?_, ?_, htr, ?_, hcf⟩
            · intro i o c ho hci
              obtain ⟨c0, hc0, rfl⟩ := hcs i c hci
              obtain ⟨a1, a2, a3, a4, a5⟩ := compOper_spec (hget i o c0 (by simpa using ho) hc0)
              exact ⟨a1, a2, a3, a4, a5⟩
            · intro i j o p t ho hp hij ht hd
              have h1 := List.all_eq_true.1 hb1 (o, i) (mem_zipIdx_get (by simpa using ho))
              have h2 := List.all_eq_true.1 h1 t ht
              have h3 := List.all_eq_true.1 h2 (p, j) (mem_zipIdx_get (by simpa using hp))
              simp only [Bool.or_eq_true] at h3
              rcases h3 with (h3 | h3) | h3
              · exact absurd (Nat.eq_of_beq_eq_true h3) hij
              · rw [hd] at h3; simp at h3
              · exact h3
            · intro i j c p hci hpj hcw hpw
              obtain ⟨c0, hc0, rfl⟩ := hcs i c hci
              obtain ⟨p0, hp0, rfl⟩ := hcs j p hpj
              have h1 := List.all_eq_true.1 hb2 (c0, i) (mem_zipIdx_get hc0)
              simp only at hcw hpw
              simp only [hcw, Bool.not_true, Bool.false_or] at h1
              have h2 := List.all_eq_true.1 h1 (p0, j) (mem_zipIdx_get hp0)
              simpa [hpw] using h2
            · intro i j c p hci hpj hcl hck hpw
              obtain ⟨c0, hc0, rfl⟩ := hcs i c hci
              obtain ⟨p0, hp0, rfl⟩ := hcs j p hpj
              simp only at hcl hck hpw
              rw [hcl, cond_true] at hck
              cases ho : ordered (masks ops.toList) i j with
              | true => rfl
              | false =>
                exfalso
                refine hck ?_
                unfold needsChk
                rw [List.mem_map]
                exact ⟨(p0, j), List.mem_filter.2 ⟨mem_zipIdx_get hp0, by simp [hpw, ho]⟩, rfl⟩
            · intro j o ho e' he' hbd
              have h1 := List.all_eq_true.1 hb3 (o, j) (mem_zipIdx_get (by simpa using ho))
              have h2 := List.all_eq_true.1 h1 e' he'
              rw [hbd] at h2
              simpa [Nat.blt_eq] using h2
            · rw [h0]; exact drawnOk_spec hok
          have hcl : (cs0.zipIdx.map fun (c, i) => ({ c with chk := cond (isLoad c.op) (needsChk cs0 (masks ops.toList) i) [] } : AOper)).length = ops.size := K.len
          rw [hcl] at hN
          have hR0 : R P φ (st 0).2 w.drew := by rw [h0]; exact hR.drew
          refine wp_region_any hm ?_
          have hI := Inv.start (D := a.defers) K hR0 (by rw [h0]; exact hT) hs rfl
          refine Inv.any K hR0 (D := a.defers) ?_ ops.size _ a _ φ 0 hI (leftN_start _ _ (Nat.le_refl _))
          intro φ' a' w' hp ht hsz hdf
          rw [hN] at hp ht
          rw [h0] at hp
          exact hQ φ' a' w' ((Post.drew hR).trans hp) ht hsz hdf rfl
        · cases he
      · cases he
    · cases hc
  · cases hc

end Go.Ax
