/-
  BX, LOGIC 5: what is known of a call in a small heap, in a larger one.
-/
import Derived.Test.YtcifmjnfigcpmaaGreatBxG
set_option linter.unusedSimpArgs false
set_option linter.unusedVariables false
set_option linter.unusedSectionVars false
namespace Go.Bx
variable {P : Program}

mutual
/-- The second value is the first one, its block 'i' called 'ι[i]'. -/
inductive RenV (ι : List Nat) : Value → Value → Prop where
  | pv {v : Value} (h : PV v) : RenV ι v v
  | ptr {a : Addr} {b : Nat} (h : ι[a.block]? = some b) : RenV ι (.pointer (some a)) (.pointer (some ⟨b, a.off, none⟩))
  | slc {a : Addr} {b n fl : Nat} (h : ι[a.block]? = some b) : RenV ι (.slice (some a) n fl) (.slice (some ⟨b, a.off, none⟩) n fl)
  | iface (t : TypeId) {v v2 : Value} (h : RenV ι v v2) : RenV ι (.iface t v) (.iface t v2)
  | agg {xs ys : Array Value} (h : RenVs ι xs.toList ys.toList) : RenV ι (.agg xs) (.agg ys)
  | tuple {xs ys : Array Value} (h : RenVs ι xs.toList ys.toList) : RenV ι (.tuple xs) (.tuple ys)
  | func (f : FuncId) {xs ys xs2 ys2 : Array Value} (hx : RenVs ι xs.toList xs2.toList) (hy : RenVs ι ys.toList ys2.toList) : RenV ι (.func (.func f) xs ys) (.func (.func f) xs2 ys2)
inductive RenVs (ι : List Nat) : List Value → List Value → Prop where
  | nil : RenVs ι [] []
  | cons {v v2 : Value} {l l2 : List Value} (h : RenV ι v v2) (hs : RenVs ι l l2) : RenVs ι (v :: l) (v2 :: l2)
end

theorem RenV.one {ι : List Nat} {v v2 : Value} (h : RenV ι v v2) : v2.one1 = v.one1 := by cases h <;> rfl
theorem RenVs.length {ι : List Nat} : ∀ {l l2 : List Value}, RenVs ι l l2 → l2.length = l.length
  | _, _, .nil => rfl
  | _, _, .cons _ hs => by simp [RenVs.length hs]
theorem RenVs.get {ι : List Nat} : ∀ {l l2 : List Value}, RenVs ι l l2 → ∀ (i : Nat) (v : Value), l[i]? = some v → ∃ v2, l2[i]? = some v2 ∧ RenV ι v v2
  | _, _, .nil, i, v, h => by simp at h
  | _, _, .cons hv hs, 0, v, h => by simp at h; subst h; exact ⟨_, rfl, hv⟩
  | _, _, .cons hv hs, i + 1, v, h => by simpa using RenVs.get hs i v (by simpa using h)
theorem RenVs.get' {ι : List Nat} : ∀ {l l2 : List Value}, RenVs ι l l2 → ∀ (i : Nat) (v2 : Value), l2[i]? = some v2 → ∃ v, l[i]? = some v ∧ RenV ι v v2
  | _, _, .nil, i, v, h => by simp at h
  | _, _, .cons hv hs, 0, v, h => by simp at h; subst h; exact ⟨_, rfl, hv⟩
  | _, _, .cons hv hs, i + 1, v, h => by simpa using RenVs.get' hs i v (by simpa using h)

mutual
theorem RenV.in {ι : List Nat} {φ φ2 : Phi} (h1 : ∀ i b, ι[i]? = some b → φ i = φ2 b) (h2 : φ.fz = φ2.fz) : ∀ {v v2 v' : Value}, RenV ι v v2 → VRel φ2 v2 v' → VRel φ v v'
  | _, _, _, .pv h, hr => FRel.toV (by rw [h2]; exact h _ _ hr)
  | _, _, _, .ptr h, .ptr ha => .ptr (by unfold ARel at *; rw [h1 _ _ h]; exact ha)
  | _, _, _, .slc h, .slc h0 hc hf => .slc (h0.imp id (fun ha => by unfold ARel at *; rw [h1 _ _ h]; exact ha)) hc (fun e => by have := hf e; unfold FlagRel at *; rw [h1 _ _ h]; exact this)
  | _, _, _, .iface t h, .iface _ hr => .iface t (RenV.in h1 h2 h hr)
  | _, _, _, .agg h, .agg ho hr => .agg (fun x hx => by
      obtain ⟨i, hi⟩ := List.mem_iff_getElem?.1 hx
      obtain ⟨y, hy, hxy⟩ := h.get i x hi
      rw [← hxy.one]; exact ho y (List.mem_of_getElem? hy)) (RenVs.in h1 h2 h hr)
  | _, _, _, .tuple h, .tuple hr => .tuple (RenVs.in h1 h2 h hr)
  | _, _, _, .func f hx hy, .func _ gx gy => .func f (RenVs.in h1 h2 hx gx) (RenVs.in h1 h2 hy gy)
theorem RenVs.in {ι : List Nat} {φ φ2 : Phi} (h1 : ∀ i b, ι[i]? = some b → φ i = φ2 b) (h2 : φ.fz = φ2.fz) : ∀ {l l2 l' : List Value}, RenVs ι l l2 → VsRel φ2 l2 l' → VsRel φ l l'
  | _, _, _, .nil, .nil => .nil
  | _, _, _, .cons h hs, .cons g gs => .cons (RenV.in h1 h2 h g) (RenVs.in h1 h2 hs gs)
end
mutual
theorem RenV.out {ι : List Nat} {φ φ2 : Phi} (h1 : ∀ i b, ι[i]? = some b → φ i = φ2 b) (h2 : φ.fz = φ2.fz) : ∀ {v v2 v' : Value}, RenV ι v v2 → VRel φ v v' → VRel φ2 v2 v'
  | _, _, _, .pv h, hr => FRel.toV (by rw [← h2]; exact h _ _ hr)
  | _, _, _, .ptr h, .ptr ha => .ptr (by unfold ARel at *; rw [← h1 _ _ h]; exact ha)
  | _, _, _, .slc h, .slc h0 hc hf => .slc (h0.imp id (fun ha => by unfold ARel at *; rw [← h1 _ _ h]; exact ha)) hc (fun e => by have := hf e; unfold FlagRel at *; rw [← h1 _ _ h]; exact this)
  | _, _, _, .iface t h, .iface _ hr => .iface t (RenV.out h1 h2 h hr)
  | _, _, _, .agg h, .agg ho hr => .agg (fun y hy => by
      obtain ⟨i, hi⟩ := List.mem_iff_getElem?.1 hy
      obtain ⟨x, hx, hxy⟩ := h.get' i y hi
      rw [hxy.one]; exact ho x (List.mem_of_getElem? hx)) (RenVs.out h1 h2 h hr)
  | _, _, _, .tuple h, .tuple hr => .tuple (RenVs.out h1 h2 h hr)
  | _, _, _, .func f hx hy, .func _ gx gy => .func f (RenVs.out h1 h2 hx gx) (RenVs.out h1 h2 hy gy)
theorem RenVs.out {ι : List Nat} {φ φ2 : Phi} (h1 : ∀ i b, ι[i]? = some b → φ i = φ2 b) (h2 : φ.fz = φ2.fz) : ∀ {l l2 l' : List Value}, RenVs ι l l2 → VsRel φ l l' → VsRel φ2 l2 l'
  | _, _, _, .nil, .nil => .nil
  | _, _, _, .cons h hs, .cons g gs => .cons (RenV.out h1 h2 h g) (RenVs.out h1 h2 hs gs)
end

def RenO (ι : List Nat) : Option AObj → Option AObj → Prop
  | none, none => True
  | some o, some o2 => o2.elem = o.elem ∧ o2.own = o.own ∧ RenVs ι o.cells o2.cells
  | _, _ => False

/-- The names of the blocks behind a call. -/
def names (ι : List Nat) (n m : Nat) : List Nat := ι ++ (List.range (m - ι.length)).map (n + ·)

structure Frame (ι : List Nat) (H0 H0' H H' : Hp) : Prop where
  len : H0.length = ι.length
  len' : ι.length ≤ H0'.length
  lt : ∀ b ∈ ι, b < H.length
  nodup : ι.Nodup
  before : ∀ i b, ι[i]? = some b → RenO ι (hget H0 i) (hget H b)
  size : H'.length = H.length + (H0'.length - ι.length)
  behind : ∀ i b, (names ι H.length H0'.length)[i]? = some b → RenO (names ι H.length H0'.length) (hget H0' i) (hget H' b)
  other : ∀ b, b < H.length → b ∉ ι → hget H' b = hget H b
  same : ∀ i b, ι[i]? = some b → hget H0' i = hget H0 i → hget H' b = hget H b

theorem names_old {ι : List Nat} {n m i b : Nat} (h : ι[i]? = some b) : (names ι n m)[i]? = some b := by
  unfold names
  rw [List.getElem?_append_left (List.getElem?_eq_some_iff.1 h).1]
  exact h
theorem names_new {ι : List Nat} {n m i : Nat} (h : ι.length ≤ i) (h2 : i < m) : (names ι n m)[i]? = some (n + (i - ι.length)) := by
  unfold names
  rw [List.getElem?_append_right h, List.getElem?_map, List.getElem?_range (by omega)]
  rfl

theorem SpecH.frame {f : FuncId} {args0 args : List Value} {v0 v : Value} {H0 H0' H H' : Hp} {ι : List Nat} (hs : SpecH P f args0 H0 v0 H0') (F : Frame ι H0 H0' H H') (ha : RenVs ι args0 args) (hv : RenV (names ι H.length H0'.length) v0 v) :
    SpecH P f args H v H' := by
  intro σ hσ
  obtain ⟨σ0', hr0', hfn, _, hcall⟩ := hs (hp H0) (hp_rp H0)
  refine ⟨hp H', hp_rp H', hfn, by rw [hσ.size, (hp_rp H').size, F.size]; omega, ?_⟩
  intro φ2 w args' hR hargs
  let φ : Phi := ⟨fun i => match ι[i]? with | some b => φ2 b | none => .absent, φ2.fz⟩
  have hφ : ∀ i b, ι[i]? = some b → φ i = φ2 b := fun i b h => by simp only [φ, h]
  have hφn : ∀ i, ι.length ≤ i → φ i = .absent := fun i h => by simp only [φ, List.getElem?_eq_none h]
  have hφi : ∀ i, φ i ≠ .absent → ∃ b, ι[i]? = some b ∧ φ i = φ2 b := by
    intro i hi
    cases hb : ι[i]? with
    | none => simp only [φ, hb] at hi; exact absurd rfl hi
    | some b => exact ⟨b, rfl, hφ i b hb⟩
  have inj : ∀ i j b, ι[i]? = some b → ι[j]? = some b → i = j := fun i j b h1 h2 => by
    have a1 := (List.getElem?_eq_some_iff.1 h1)
    have a2 := (List.getElem?_eq_some_iff.1 h2)
    obtain ⟨l1, e1⟩ := a1
    obtain ⟨l2, e2⟩ := a2
    have hnd := List.pairwise_iff_getElem.1 F.nodup
    rcases Nat.lt_trichotomy i j with h | h | h
    · exact absurd (e1.trans e2.symm) (hnd i j l1 l2 h)
    · exact h
    · exact absurd (e2.trans e1.symm) (hnd j i l2 l1 h)
  have hg0 := (hp_rp H0).get
  have hR0 : R P φ (hp H0) w := by
    refine ⟨fun i hi => hφn i (by rw [(hp_rp H0).size, F.len] at hi; exact hi), fun i p hi => ?_, fun i b o k hi => ?_, fun i j b o k b' o' k' obj h1 h2 h3 h4 h5 => ?_, hR.froz, fun i b o k obj h1 h2 h3 => ?_⟩
    · obtain ⟨b, hb, e⟩ := hφi i (by rw [hi]; simp)
      have := hR.dead b p (by rw [← e]; exact hi)
      have hB := F.before i b hb
      rw [hσ.get] at this
      rw [this] at hB
      rw [hg0]
      cases h : hget H0 i with
      | none => rfl
      | some o => rw [h] at hB; exact hB.elim
    · obtain ⟨bb, hb, e⟩ := hφi i (by rw [hi]; simp)
      obtain ⟨obj, c, et, fr, g1, g2, g3, g4⟩ := hR.live bb b o k (by rw [← e]; exact hi)
      have hB := F.before i bb hb
      rw [hσ.get] at g1
      rw [g1] at hB
      cases h : hget H0 i with
      | none => rw [h] at hB; exact hB.elim
      | some o0 =>
        rw [h] at hB
        obtain ⟨e1, e2, e3⟩ := hB
        refine ⟨o0, c, et, fr, by rw [hg0]; exact h, g2, fun j v hj => ?_, fun ho => ?_⟩
        · obtain ⟨v2, hj2, hren⟩ := e3.get j v hj
          obtain ⟨a1, v', a2, a3⟩ := g3 j v2 hj2
          exact ⟨by rw [← hren.one]; exact a1, v', a2, hren.in hφ rfl a3⟩
        · obtain ⟨x1, x2, x3, x4⟩ := g4 (by rw [e2]; exact ho)
          exact ⟨x1, x2, by rw [x3, e1], x4⟩
    · obtain ⟨bi, hbi, ei⟩ := hφi i (by rw [h1]; simp)
      obtain ⟨bj, hbj, ej⟩ := hφi j (by rw [h2]; simp)
      have hB := F.before i bi hbi
      rw [hg0] at h3
      rw [h3] at hB
      cases h : hget H bi with
      | none => rw [h] at hB; exact hB.elim
      | some oi =>
        rw [h] at hB
        exact hR.excl bi bj b o k b' o' k' oi (by rw [← ei]; exact h1) (by rw [← ej]; exact h2) (by rw [hσ.get]; exact h) (by rw [hB.2.1]; exact h4) (fun e => h5 (inj i j bi hbi (by rw [e]; exact hbj)))
    · obtain ⟨bi, hbi, ei⟩ := hφi i (by rw [h1]; simp)
      have hB := F.before i bi hbi
      rw [hg0] at h2
      rw [h2] at hB
      cases h : hget H bi with
      | none => rw [h] at hB; exact hB.elim
      | some oi =>
        rw [h] at hB
        exact hR.nofz bi b o k oi (by rw [← ei]; exact h1) (by rw [hσ.get]; exact h) (by rw [hB.2.1]; exact h3)
  have hown0 : ∀ b, Owned φ (hp H0) b → ∃ (i bi o : Nat) (k : Option Nat) (oi : AObj), ι[i]? = some bi ∧ φ2 bi = .live b o k ∧ σ.get bi = some oi ∧ oi.own = true := by
    rintro b ⟨i, o, k, obj, h1, h2, h3⟩
    obtain ⟨bi, hbi, ei⟩ := hφi i (by rw [h1]; simp)
    have hB := F.before i bi hbi
    rw [hg0] at h2
    rw [h2] at hB
    cases h : hget H bi with
    | none => rw [h] at hB; exact hB.elim
    | some oi =>
      rw [h] at hB
      exact ⟨i, bi, o, k, oi, hbi, by rw [← ei]; exact h1, by rw [hσ.get]; exact h, by rw [hB.2.1]; exact h3⟩
  have hown2 : ∀ b, Owned φ (hp H0) b → Owned φ2 σ b := fun b hb => by
    obtain ⟨i, bi, o, k, oi, _, h1, h2, h3⟩ := hown0 b hb
    exact ⟨bi, o, k, oi, h1, h2, h3⟩
  refine (hcall φ w args' hR0 (ha.in hφ rfl hargs)).mono ?_
  rintro e w' ⟨φ', v', rfl, hv', hpost⟩
  -- the relation behind the call
  let idx : Nat → Option Nat := fun b => if b < H.length then (if b ∈ ι then some (ι.idxOf b) else none) else some (ι.length + (b - H.length))
  let φ2' : Phi := ⟨fun b => match idx b with | some i => φ' i | none => φ2 b, φ'.fz⟩
  have hidx : ∀ i b, (names ι H.length H0'.length)[i]? = some b → idx b = some i := by
    intro i b h
    by_cases hi : i < ι.length
    · have hb : ι[i]? = some b := by
        unfold names at h
        rw [List.getElem?_append_left hi] at h
        exact h
      have hm : b ∈ ι := List.mem_of_getElem? hb
      have : ι.idxOf b = i := by
        have h1 : ι[ι.idxOf b]? = some b := by
          rw [List.getElem?_eq_getElem (List.idxOf_lt_length_of_mem hm)]
          simp
        exact inj _ _ b h1 hb
      simp only [idx, if_pos (F.lt b hm), if_pos hm, this]
    · have hlt : i < H0'.length := by
        have := (List.getElem?_eq_some_iff.1 h).1
        unfold names at this
        have := F.len'
        simp at *; omega
      rw [names_new (by omega) hlt] at h
      cases h
      simp only [idx]
      rw [if_neg (by omega)]
      congr 1
      omega
  have hφ' : ∀ i b, (names ι H.length H0'.length)[i]? = some b → φ' i = φ2' b := fun i b h => by simp only [φ2', hidx i b h]
  have hidx2 : ∀ b i, idx b = some i → i < H0'.length → (names ι H.length H0'.length)[i]? = some b := by
    intro b i h hlt
    simp only [idx] at h
    split at h
    · split at h
      · rename_i hm
        cases h
        refine names_old ?_
        rw [List.getElem?_eq_getElem (List.idxOf_lt_length_of_mem hm)]
        simp
      · cases h
    · rename_i hb
      cases h
      rw [names_new (by omega) hlt]
      congr 1
      omega
  have hsz0 : (hp H0).size = ι.length := by rw [(hp_rp H0).size, F.len]
  have hi' : ∀ i, φ' i ≠ .absent → i < H0'.length := fun i h => by
    have := hpost.rel.id_lt h
    rw [hr0'.size] at this
    exact this
  -- three kinds of blocks
  have kinds : ∀ b, φ2' b ≠ .absent → (∃ i, idx b = some i ∧ i < H0'.length ∧ φ2' b = φ' i ∧ (names ι H.length H0'.length)[i]? = some b) ∨ (idx b = none ∧ φ2' b = φ2 b ∧ b < H.length ∧ b ∉ ι) := by
    intro b hb
    cases h : idx b with
    | none =>
      refine .inr ⟨rfl, by simp only [φ2', h], ?_⟩
      simp only [idx] at h
      split at h
      · rename_i hlt
        split at h
        · cases h
        · rename_i hm; exact ⟨hlt, hm⟩
      · cases h
    | some i =>
      have e : φ2' b = φ' i := by simp only [φ2', h]
      have hlt := hi' i (by rw [← e]; exact hb)
      exact .inl ⟨i, rfl, hlt, e, hidx2 b i h hlt⟩
  have hle : Le φ2 φ2' := by
    refine ⟨fun b hb => ?_, hpost.le.fz⟩
    have hlt : b < H.length := by rw [← hσ.size]; exact hR.id_lt hb
    by_cases hm : b ∈ ι
    · obtain ⟨i, hib⟩ := List.mem_iff_getElem?.1 hm
      rw [← hφ' i b (names_old hib), ← hφ i b hib]
      exact hpost.le.st i (by rw [hφ i b hib]; exact hb)
    · left
      have : idx b = none := by simp only [idx, if_pos hlt, if_neg hm]
      simp only [φ2', this]
  have hgo := (hp_rp H').get
  have free : ∀ b blk o k, φ2 b = .live blk o k → b ∉ ι → ¬ Owned φ (hp H0) blk := by
    rintro b blk o k hb hm ho
    obtain ⟨i, bi, o', k', oi, hbi, h1, h2, h3⟩ := hown0 blk ho
    exact hR.excl bi b blk o' k' blk o k oi h1 hb h2 h3 (fun e => hm (e ▸ List.mem_of_getElem? hbi)) rfl
  have hnew : ∀ i blk o k, φ' i = .live blk o k → ∀ b, φ2 b ≠ .absent → (∀ bi, ι[i]? = some bi → bi ≠ b) → ∀ o2 k2, φ2 b = .live blk o2 k2 → b ∉ ι → (∃ bi o' k', ι[i]? = some bi ∧ φ2 bi = .live blk o' k') := by
    intro i blk o k hi b hb hne o2 k2 hb2 hm
    cases hs : φ i with
    | absent =>
      rcases hpost.new i blk o k hs hi with h | h
      · exact absurd h (free b blk o2 k2 hb2 hm)
      · have := hR.blk_lt hb2; omega
    | dead p =>
      rcases hpost.le.st i (by rw [hs]; simp) with e | ⟨e, _⟩ <;> rw [hi] at e
      · rw [hs] at e; cases e
      · cases e
    | live b1 o1 k1 =>
      rcases hpost.le.st i (by rw [hs]; simp) with e | ⟨e, _⟩ <;> rw [hi] at e
      · rw [hs] at e
        injection e with e1 e2 e3
        subst e1
        obtain ⟨bi, hbi, ei⟩ := hφi i (by rw [hs]; simp)
        exact ⟨bi, o1, k1, hbi, by rw [← ei]; exact hs⟩
      · cases e
  have hR' : R P φ2' (hp H') w' := by
    refine ⟨fun b hb => ?_, fun b p hb => ?_, fun b blk o k hb => ?_, fun b1 b2 blk1 o1 k1 blk2 o2 k2 obj h1 h2 h3 h4 h5 => ?_, hpost.rel.froz, fun b blk o k obj h1 h2 h3 => ?_⟩
    · rw [(hp_rp H').size, F.size] at hb
      cases hs : φ2' b with
      | absent => rfl
      | _ =>
        rcases kinds b (by rw [hs]; simp) with ⟨i, h1, h2, h3, h4⟩ | ⟨h1, h2, h3, h4⟩
        · simp only [idx] at h1
          rw [if_neg (by omega)] at h1
          cases h1
          have := F.len'
          omega
        · omega
    · rw [hgo]
      rcases kinds b (by rw [hb]; simp) with ⟨i, h1, h2, h3, h4⟩ | ⟨h1, h2, h3, h4⟩
      · have hd := hpost.rel.dead i p (by rw [← h3]; exact hb)
        rw [hr0'.get] at hd
        have hB := F.behind i b h4
        rw [hd] at hB
        cases h : hget H' b with
        | none => rfl
        | some _ => rw [h] at hB; exact hB.elim
      · have hd := hR.dead b p (by rw [← h2]; exact hb)
        rw [F.other b h3 h4, ← hσ.get]; exact hd
    · rcases kinds b (by rw [hb]; simp) with ⟨i, h1, h2, h3, h4⟩ | ⟨h1, h2, h3, h4⟩
      · obtain ⟨obj, c, et, fr, g1, g2, g3, g4⟩ := hpost.rel.live i blk o k (by rw [← h3]; exact hb)
        rw [hr0'.get] at g1
        have hB := F.behind i b h4
        rw [g1] at hB
        cases h : hget H' b with
        | none => rw [h] at hB; exact hB.elim
        | some o2 =>
          rw [h] at hB
          obtain ⟨e1, e2, e3⟩ := hB
          refine ⟨o2, c, et, fr, by rw [hgo]; exact h, g2, fun j v2 hj => ?_, fun ho => ?_⟩
          · obtain ⟨v, hj0, hren⟩ := e3.get' j v2 hj
            obtain ⟨a1, u', a2, a3⟩ := g3 j v hj0
            exact ⟨by rw [hren.one]; exact a1, u', a2, hren.out hφ' rfl a3⟩
          · obtain ⟨x1, x2, x3, x4⟩ := g4 (by rw [← e2]; exact ho)
            exact ⟨x1, x2, by rw [x3, e1], x4⟩
      · have hb2 : φ2 b = .live blk o k := by rw [← h2]; exact hb
        obtain ⟨obj, c, et, fr, g1, g2, g3, g4⟩ := hR.live b blk o k hb2
        refine ⟨obj, c, et, fr, by rw [hgo, F.other b h3 h4, ← hσ.get]; exact g1, by rw [hpost.keep blk (hR.blk_lt hb2) (free b blk o k hb2 h4)]; exact g2, fun j v hj => ?_, g4⟩
        obtain ⟨a1, u', a2, a3⟩ := g3 j v hj
        exact ⟨a1, u', a2, a3.mono hle⟩
    · rw [hgo] at h3
      rcases kinds b1 (by rw [h1]; simp) with ⟨i, a1, a2, a3, a4⟩ | ⟨a1, a2, a3, a4⟩
      · have hB := F.behind i b1 a4
        rw [h3] at hB
        cases hh : hget H0' i with
        | none => rw [hh] at hB; exact hB.elim
        | some oi =>
          rw [hh] at hB
          have hoi : oi.own = true := by rw [← hB.2.1]; exact h4
          rcases kinds b2 (by rw [h2]; simp) with ⟨j, c1, c2, c3, c4⟩ | ⟨c1, c2, c3, c4⟩
          · exact hpost.rel.excl i j blk1 o1 k1 blk2 o2 k2 oi (by rw [← a3]; exact h1) (by rw [← c3]; exact h2) (by rw [hr0'.get]; exact hh) hoi (fun e => h5 (by rw [e, c4] at a4; exact (Option.some.inj a4).symm))
          · intro e
            have hb2 : φ2 b2 = .live blk2 o2 k2 := by rw [← c2]; exact h2
            rcases hpost.own blk1 ⟨i, o1, k1, oi, by rw [← a3]; exact h1, by rw [hr0'.get]; exact hh, hoi⟩ with h | h
            · rw [e] at h
              exact free b2 blk2 o2 k2 hb2 c4 h
            · have := hR.blk_lt hb2
              omega
      · have hb1 : φ2 b1 = .live blk1 o1 k1 := by rw [← a2]; exact h1
        have hob1 : σ.get b1 = some obj := by rw [hσ.get, ← F.other b1 a3 a4]; exact h3
        rcases kinds b2 (by rw [h2]; simp) with ⟨j, c1, c2, c3, c4⟩ | ⟨c1, c2, c3, c4⟩
        · intro e
          subst e
          obtain ⟨bj, o', k', d1, d2⟩ := hnew j blk1 o2 k2 (by rw [← c3]; exact h2) b1 (by rw [hb1]; simp) (fun bi hbi e => a4 (e ▸ List.mem_of_getElem? hbi)) o1 k1 hb1 a4
          exact hR.excl b1 bj blk1 o1 k1 blk1 o' k' obj hb1 d2 hob1 h4 (fun e => a4 (e ▸ List.mem_of_getElem? d1)) rfl
        · exact hR.excl b1 b2 blk1 o1 k1 blk2 o2 k2 obj hb1 (by rw [← c2]; exact h2) hob1 h4 h5
    · rw [hgo] at h2
      rcases kinds b (by rw [h1]; simp) with ⟨i, a1, a2, a3, a4⟩ | ⟨a1, a2, a3, a4⟩
      · have hB := F.behind i b a4
        rw [h2] at hB
        cases hh : hget H0' i with
        | none => rw [hh] at hB; exact hB.elim
        | some oi =>
          rw [hh] at hB
          exact hpost.rel.nofz i blk o k oi (by rw [← a3]; exact h1) (by rw [hr0'.get]; exact hh) (by rw [← hB.2.1]; exact h3)
      · have hb2 : φ2 b = .live blk o k := by rw [← a2]; exact h1
        have hz := hR.nofz b blk o k obj hb2 (by rw [hσ.get, ← F.other b a3 a4]; exact h2) h3
        cases hz' : φ2'.fz blk with
        | none => rfl
        | some c =>
          rcases hpost.fz blk c hz' with h | h | h
          · have h' : φ2.fz blk = some c := h
            rw [hz] at h'; cases h'
          · exact absurd h (free b blk o k hb2 a4)
          · have := hR.blk_lt hb2; omega
  refine ⟨φ2', v', rfl, hv.out hφ' rfl hv', ⟨by rw [hσ.size, (hp_rp H').size, F.size]; omega, hle, fun b hb hab => ?_, hR', fun blk hb => ?_, fun b blk o k h1 h2 => ?_, fun blk hb hn => hpost.keep blk hb (fun h => hn (hown2 blk h)), hpost.grow, hpost.env, fun b c hb => ?_⟩⟩
  · rw [hσ.size] at hb
    rw [hgo, hσ.get]
    by_cases hm : b ∈ ι
    · obtain ⟨i, hib⟩ := List.mem_iff_getElem?.1 hm
      have hl := (List.getElem?_eq_some_iff.1 hib).1
      obtain ⟨h1, h2⟩ := hpost.abs i (by rw [hsz0]; exact hl) (by rw [hφ i b hib]; exact hab)
      rw [hr0'.get, hg0] at h2
      exact ⟨by rw [← hφ' i b (names_old hib)]; exact h1, F.same i b hib h2⟩
    · have : idx b = none := by simp only [idx, if_pos hb, if_neg hm]
      exact ⟨by simp only [φ2', this]; exact hab, F.other b hb hm⟩
  · obtain ⟨b, o, k, obj, h1, h2, h3⟩ := hb
    rw [hgo] at h2
    rcases kinds b (by rw [h1]; simp) with ⟨i, a1, a2, a3, a4⟩ | ⟨a1, a2, a3, a4⟩
    · have hB := F.behind i b a4
      rw [h2] at hB
      cases hh : hget H0' i with
      | none => rw [hh] at hB; exact hB.elim
      | some oi =>
        rw [hh] at hB
        rcases hpost.own blk ⟨i, o, k, oi, by rw [← a3]; exact h1, by rw [hr0'.get]; exact hh, by rw [← hB.2.1]; exact h3⟩ with h | h
        · exact .inl (hown2 blk h)
        · exact .inr h
    · exact .inl ⟨b, o, k, obj, by rw [← a2]; exact h1, by rw [hσ.get, ← F.other b a3 a4]; exact h2, h3⟩
  · rcases kinds b (by rw [h2]; simp) with ⟨i, a1, a2, a3, a4⟩ | ⟨a1, a2, a3, a4⟩
    · have hi0 : φ i = .absent := by
        by_cases hi : i < ι.length
        · have hb : ι[i]? = some b := by
            unfold names at a4
            rw [List.getElem?_append_left hi] at a4
            exact a4
          rw [hφ i b hb]; exact h1
        · exact hφn i (by omega)
      rcases hpost.new i blk o k hi0 (by rw [← a3]; exact h2) with h | h
      · exact .inl (hown2 blk h)
      · exact .inr h
    · rw [a2, h1] at h2; cases h2
  · rcases hpost.fz b c hb with h | h | h
    · exact .inl h
    · exact .inr (.inl (hown2 b h))
    · exact .inr (.inr h)

end Go.Bx

namespace Go.Bx
variable {P : Program}

open Classical in
/-- A known call, as a caller. -/
noncomputable def oneH {f : FuncId} {args : List Value} {H : Hp} {v : Value} {H' : Hp} (h : SpecH P f args H v H') : CallF :=
  fun g as σ => if hc : g = f ∧ as = args ∧ Rp σ H then some (v, Classical.choose (h σ hc.2.2)) else none
theorem oneH_sound {f : FuncId} {args : List Value} {H : Hp} {v : Value} {H' : Hp} (h : SpecH P f args H v H') : SndF P (oneH h) := by
  intro g as σ u σ' he
  unfold oneH at he
  split at he
  · rename_i hc
    obtain ⟨rfl, rfl, hr⟩ := hc
    cases he
    exact (Classical.choose_spec (h σ hr)).2
  · cases he
theorem oneH_self {f : FuncId} {args : List Value} {H : Hp} {v : Value} {H' : Hp} (h : SpecH P f args H v H') {σ : AHeap} (hr : Rp σ H) : ∃ σ', oneH h f args σ = some (v, σ') ∧ Rp σ' H' := by
  refine ⟨Classical.choose (h σ hr), ?_, (Classical.choose_spec (h σ hr)).1⟩
  unfold oneH
  rw [dif_pos ⟨rfl, rfl, hr⟩]

def RpHs : List (Nat × AHeap × AHeap) → List (Nat × Hp × Hp) → Prop
  | [], [] => True
  | (a, σ, σ') :: r, (b, H, H') :: s => a = b ∧ Rp σ H ∧ Rp σ' H' ∧ RpHs r s
  | _, _ => False
theorem RpHs.mem : ∀ {hsA : List (Nat × AHeap × AHeap)} {hs : List (Nat × Hp × Hp)}, RpHs hsA hs → ∀ g ∈ hsA, ∃ h ∈ hs, g.1 = h.1 ∧ Rp g.2.1 h.2.1 ∧ Rp g.2.2 h.2.2
  | [], [], _, g, hg => by cases hg
  | [], _ :: _, h, _, _ => h.elim
  | _ :: _, [], h, _, _ => h.elim
  | (a, σ, σ') :: r, (b, H, H') :: s, h, g, hg => by
    obtain ⟨h1, h2, h3, h4⟩ := h
    rcases List.mem_cons.1 hg with rfl | hg
    · exact ⟨_, List.mem_cons_self, h1, h2, h3⟩
    · obtain ⟨x, hx, hh⟩ := RpHs.mem h4 g hg
      exact ⟨x, List.mem_cons_of_mem _ hx, hh⟩

def chkL (τ : Fr) (o : AOper) : List Nat := chkOf (opdL τ) o
def fineL (chk : List Nat) (H : Hp) (id : Nat) : Bool := chk.isEmpty || (match hget H id with | some ob => ob.cells.all (valBnd H.length) | none => false)
theorem fineL_eq {σ : AHeap} {H : Hp} (hr : Rp σ H) (chk : List Nat) (id : Nat) : chkFine chk σ id = fineL chk H id := by
  unfold chkFine fineL
  rw [hr.get, hr.size]
  cases hget H id <;> rfl

def EvD (P : Program) (k : Nat) (ops : List AOper) (τ : Fr) (H : Hp) (hs : List (Nat × Hp × Hp)) (ids : List (Nat × List Nat)) (R : Fr → Hp → List (Nat × Hp × Hp) → List (Nat × List Nat) → Prop) : Prop :=
  ∃ cfs : Nat → CallF, (∀ j, SndF P (cfs j)) ∧ ∃ τ' H' hs' ids', R τ' H' hs' ids' ∧ ∀ τT σ hsA, RepT τT τ → Rp σ H → RpHs hsA hs →
    ∃ τT' σ' hsA', evalOpsD cfs k ops τT σ hsA ids = some (τT', σ', hsA', ids') ∧ RepT τT' τ' ∧ Rp σ' H' ∧ RpHs hsA' hs'

theorem evalOpsD_congr {cfs cfs' : Nat → CallF} : ∀ (ops : List AOper) (k : Nat) (τ : Tmps) (σ : AHeap) (hs : List (Nat × AHeap × AHeap)) (ids : List (Nat × List Nat)), (∀ j, k ≤ j → cfs j = cfs' j) → evalOpsD cfs k ops τ σ hs ids = evalOpsD cfs' k ops τ σ hs ids
  | [], k, τ, σ, hs, ids, h => rfl
  | o :: rest, k, τ, σ, hs, ids, h => by
    simp only [evalOpsD, h k (Nat.le_refl _)]
    have ih := fun τ σ hs ids => evalOpsD_congr rest (k + 1) τ σ hs ids (fun j hj => h j (by omega))
    simp only [ih]

variable {nt k kk : Nat} {Q : Out} {l : List Item} {τ : Fr} {H H2 : Hp} {hs : List (Nat × Hp × Hp)} {ids : List (Nat × List Nat)} {R : Fr → Hp → List (Nat × Hp × Hp) → List (Nat × List Nat) → Prop}

theorem d_nil (h : R τ H hs ids) : EvD P kk [] τ H hs ids R := ⟨fun _ _ _ _ => none, fun _ => sndF_none, τ, H, hs, ids, h, fun τT σ hsA h1 h2 h3 => ⟨τT, σ, hsA, rfl, h1, h2, h3⟩⟩

theorem wantedT {τT : Tmps} (h : RepT τT τ) (g : Option (Option Tmp × Bool)) : wantedA τT g = wantedL τ g := by
  rcases g with _ | ⟨_ | t, w⟩
  · rfl
  · rfl
  · simp only [wantedA, wantedL, h t]; rfl

theorem d_miss {dst : Option Tmp} {op : AOp} {g : Option (Option Tmp × Bool)} {chk : List Nat} {rest : List AOper} (hw : wantedL τ g = some false) (h : EvD P (kk + 1) rest (putL τ dst undef) H hs ids R) : EvD P kk (⟨dst, op, g, chk⟩ :: rest) τ H hs ids R := by
  obtain ⟨cfs, h1, τ', H', hs', ids', h2, h3⟩ := h
  refine ⟨cfs, h1, τ', H', hs', ids', h2, fun τT σ hsA ht hr hh => ?_⟩
  obtain ⟨τT', σ', hsA', h4, h5⟩ := h3 (putA τT dst undef) σ hsA (ht.put dst undef) hr hh
  exact ⟨τT', σ', hsA', by simp only [evalOpsD, wantedT ht, hw]; exact h4, h5⟩

theorem d_step {dst : Option Tmp} {op : AOp} {g : Option (Option Tmp × Bool)} {chk : List Nat} {rest : List AOper} {v : Value} (hw : wantedL τ g = some true) {cf : CallF} (hcf : SndF P cf) (ho : ∀ σ, Rp σ H → ∃ σ', op2 cf (opdL τ) σ op = some (v, σ') ∧ Rp σ' H2)
    (hf : fineL (chkL τ ⟨dst, op, g, chk⟩) H (loadsAt (opdL τ) op) = true)
    (h : EvD P (kk + 1) rest (putL τ dst v) H2 (cond (isWriter op) ((kk, H, H2) :: hs) hs) (cond (chkL τ ⟨dst, op, g, chk⟩).isEmpty ids ((loadsAt (opdL τ) op, chkL τ ⟨dst, op, g, chk⟩) :: ids)) R) : EvD P kk (⟨dst, op, g, chk⟩ :: rest) τ H hs ids R := by
  obtain ⟨cfs, h1, τ', H', hs', ids', h2, h3⟩ := h
  refine ⟨fun j => if j = kk then cf else cfs j, fun j => ?_, τ', H', hs', ids', h2, fun τT σ hsA ht hr hh => ?_⟩
  · show SndF P (if j = kk then cf else cfs j)
    split
    · exact hcf
    · exact h1 j
  · obtain ⟨σ1, ho1, hr1⟩ := ho σ hr
    obtain ⟨τT', σ', hsA', h4, h5⟩ := h3 (putA τT dst v) σ1 (cond (isWriter op) ((kk, σ, σ1) :: hsA) hsA) (ht.put dst v) hr1 (by cases isWriter op with | false => exact hh | true => exact ⟨rfl, hr, hr1, hh⟩)
    refine ⟨τT', σ', hsA', ?_, h5⟩
    simp only [evalOpsD, wantedT ht, hw, ht.opd]
    unfold chkL at hf h4
    simp only [if_true, ho1, fineL_eq hr, hf, cond_true]
    rw [← h4]
    exact evalOpsD_congr rest (kk + 1) _ _ _ _ (fun j hj => if_neg (by omega))

theorem d_op {dst : Option Tmp} {op : AOp} {g : Option (Option Tmp × Bool)} {chk : List Nat} {rest : List AOper} {v : Value} (hw : wantedL τ g = some true) (ho : opS (opdL τ) H op = some (v, H2))
    (hf : fineL (chkL τ ⟨dst, op, g, chk⟩) H (loadsAt (opdL τ) op) = true)
    (h : EvD P (kk + 1) rest (putL τ dst v) H2 (cond (isWriter op) ((kk, H, H2) :: hs) hs) (cond (chkL τ ⟨dst, op, g, chk⟩).isEmpty ids ((loadsAt (opdL τ) op, chkL τ ⟨dst, op, g, chk⟩) :: ids)) R) : EvD P kk (⟨dst, op, g, chk⟩ :: rest) τ H hs ids R :=
  d_step hw sndF_none (fun σ hr => by
    obtain ⟨σ', h1, h2⟩ := opS_sound hr ho
    refine ⟨σ', ?_, h2⟩
    rw [op2_op1]
    · exact h1
    · cases op <;> first | rfl | (simp [opS] at ho)) hf h

theorem callee_oneH {ρ : Operand → Value} {op : AOp} {f : FuncId} {args : List Value} (hc : calleeOf ρ H op = some (f, args)) {v : Value} (hs : SpecH P f args H v H2) {σ : AHeap} (hr : Rp σ H) : ∃ σ', op2 (oneH hs) ρ σ op = some (v, σ') ∧ Rp σ' H2 := by
  obtain ⟨σ', h1, h2⟩ := oneH_self hs hr
  refine ⟨σ', ?_, h2⟩
  unfold calleeOf at hc
  split at hc
  · split at hc
    · rename_i g first captured hf
      cases hc
      simp only [op2, hf]
      exact h1
    · cases hc
  · rename_i tab x as
    split at hc
    · rename_i t u hx
      split at hc
      · rename_i g hft
        cases hc
        simp only [op2, hx, hft, recvOf]
        exact h1
      · rename_i g sz hft
        split at hc
        · rename_i a
          split at hc
          · rename_i u hu
            cases hc
            simp only [op2, hx, hft, recvOf, readH_eq hr, hu]
            exact h1
          · cases hc
        · split at hc
          · rename_i u hu
            cases hc
            simp only [op2, hx, hft, recvOf, hu]
            exact h1
          · cases hc
        · cases hc
      · cases hc
    · cases hc
  · cases hc

theorem d_call {dst : Option Tmp} {op : AOp} {g : Option (Option Tmp × Bool)} {chk : List Nat} {rest : List AOper} {f : FuncId} {args : List Value} {v : Value} (hw : wantedL τ g = some true) (hc : calleeOf (opdL τ) H op = some (f, args)) (hsp : SpecH P f args H v H2)
    (hf : fineL (chkL τ ⟨dst, op, g, chk⟩) H (loadsAt (opdL τ) op) = true)
    (h : EvD P (kk + 1) rest (putL τ dst v) H2 (cond (isWriter op) ((kk, H, H2) :: hs) hs) (cond (chkL τ ⟨dst, op, g, chk⟩).isEmpty ids ((loadsAt (opdL τ) op, chkL τ ⟨dst, op, g, chk⟩) :: ids)) R) : EvD P kk (⟨dst, op, g, chk⟩ :: rest) τ H hs ids R :=
  d_step hw (oneH_sound hsp) (fun σ hr => callee_oneH hc hsp hr) hf h

/-- The checked loads have seen what they would have seen in every order. -/
def DrawnL (H : Hp) (hs : List (Nat × Hp × Hp)) (ids : List (Nat × List Nat)) : Prop := ∀ i ∈ ids, i.1 < H.length ∧ ∀ g ∈ hs, g.1 ∈ i.2 → hget g.2.2 i.1 = hget g.2.1 i.1
theorem drawn_nil {H : Hp} {hs : List (Nat × Hp × Hp)} : DrawnL H hs [] := fun i hi => by cases hi

theorem go_dregion (hm : P.follows .mixedOrders = true) {ops : List AOper} (h : EvD P 0 ops τ H [] [] (fun τ' H' hs ids => DrawnL H hs ids ∧ Go P nt k Q l τ' H')) : Go P nt k Q (.code (.dregion ops) :: l) τ H := by
  obtain ⟨cfs, h1, τ', H', hs', ids', ⟨hd, hgo⟩, h3⟩ := h
  refine wpC_of fun c hns hc b a w ha Qm hQ => ?_
  obtain ⟨id, mops, rfl⟩ := compC_shape hns hc
  obtain ⟨hbg, ⟨φ, σ, hr, hp, hT⟩, hsz, hk⟩ := ha
  obtain ⟨τT', σ', hsA', h4, h5, h6, h7⟩ := h3 (toT τ) σ [] (toT_at τ) hr trivial
  refine dregion_gen h1 hm hc h4 (fun i hi => ?_) hp.rel hT.toT hsz (fun φ' a' w' hp' ht' hs' hdf => hQ .normal τ' H' a' w' hgo ⟨hbg, ⟨φ', σ', h6, hp.trans hp', .of h5 ht'⟩, hs', hk⟩ hdf)
  obtain ⟨d1, d2⟩ := hd i hi
  refine ⟨by rw [hr.size]; exact d1, fun g hg hgi => ?_⟩
  obtain ⟨x, hx, e1, e2, e3⟩ := h7.mem g hg
  rw [e3.get, e2.get]
  exact d2 x hx (by rw [← e1]; exact hgi)

/-! ### Calls that the interpreter computes -/

def toL (σ : AHeap) : Hp := (List.range σ.size).map σ.get
theorem toL_rp {σ : AHeap} (h : ∀ i, σ.size ≤ i → σ.get i = none) : Rp σ (toL σ) := by
  refine ⟨by simp [toL], fun i => ?_⟩
  unfold hget toL
  by_cases hi : i < σ.size
  · rw [List.getElem?_map, List.getElem?_range hi]
    cases hg : σ.get i <;> simp [hg]
  · rw [List.getElem?_eq_none (by simp; omega)]
    exact h i (by omega)

/-- A closed call with a plain result. -/
theorem spec_closed {cf : CallF} (hcf : SndF P cf) {f : FuncId} {args : List Value} {v : Value} {σ' : AHeap} (he : cf f args AHeap.empty = some (v, σ')) (hv : PV v) : SpecH P f args [] v [] := by
  intro σ hσ
  have hs : Spec P f args AHeap.empty v σ' := hcf f args _ v σ' he
  obtain ⟨h1, h2, h3⟩ := hs
  refine ⟨σ, hσ, h1, Nat.le_refl _, fun φ w args' hR hargs => ?_⟩
  have hge : ∀ i, σ.get i = none := fun i => by rw [hσ.get]; rfl
  have hsz : σ.size = 0 := hσ.size
  refine (h3 φ w args' (hR.congr (by rw [hsz]; rfl) (fun i => by rw [hge]; rfl)) hargs).mono ?_
  rintro e w' ⟨φ', v', rfl, hv', hp⟩
  have hp' : Post P φ σ w φ' σ' w' := ⟨by rw [hsz]; exact Nat.zero_le _, hp.le, fun i hi => by omega, hp.rel, fun b hb => by
    rcases hp.own b hb with ⟨i, o, k, obj, _, h, _⟩ | h
    · cases h
    · exact .inr h, fun i b o k h1 h2 => by
    rcases hp.new i b o k h1 h2 with ⟨i, o, k, obj, _, h, _⟩ | h
    · cases h
    · exact .inr h, fun b hb _ => hp.keep b hb (by rintro ⟨i, o, k, obj, _, h, _⟩; cases h), hp.grow, hp.env, fun b c hb => by
    rcases hp.fz b c hb with h | ⟨i, o, k, obj, _, h, _⟩ | h
    · exact .inl h
    · cases h
    · exact .inr (.inr h)⟩
  have hR' : R P (res φ' 0) σ w' := by
    refine ⟨fun i _ => by rw [res_st]; simp, fun i p hi => by rw [res_st] at hi; simp at hi, fun i b o k hi => by rw [res_st] at hi; simp at hi, fun i j b o k b' o' k' obj hi => by rw [res_st] at hi; simp at hi, hp.rel.froz, fun i b o k obj hi => by rw [res_st] at hi; simp at hi⟩
  refine ⟨res φ' 0, v', rfl, hv.bel 0 φ' v' hv', ⟨Nat.le_refl _, ⟨fun i hi => ?_, hp'.le.fz⟩, fun i hi => by omega, hR', fun b hb => ?_, fun i b o k h1 h2 => by rw [res_st] at h2; simp at h2, hp'.keep, hp'.grow, hp'.env, hp'.fz⟩⟩
  · have := hR.id_lt hi; omega
  · obtain ⟨i, o, k, obj, h1, _⟩ := hb
    rw [res_st] at h1; simp at h1

end Go.Bx

