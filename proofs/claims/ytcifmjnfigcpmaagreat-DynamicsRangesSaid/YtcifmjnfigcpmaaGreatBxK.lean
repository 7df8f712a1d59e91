/-
  MX 7: weaker knowledge of a state: of values and cells, blocks forgotten, blocks renamed.
-/
import Derived.Test.YtcifmjnfigcpmaaGreatBxJ
set_option linter.unusedSimpArgs false
set_option linter.unusedVariables false
set_option linter.unusedSectionVars false
namespace Go.Bx
variable {P : Program} {k : Nat} {τ τ2 : Fr} {H H2 : Hp}

/-- Cell by cell. -/
def VLes : List Value → List Value → Prop
  | [], [] => True
  | v :: l, v2 :: l2 => VLe v v2 ∧ v2.one1 = true ∧ VLes l l2
  | _, _ => False
theorem VLes.get : ∀ {l l2 : List Value}, VLes l l2 → ∀ (i : Nat) (v2 : Value), l2[i]? = some v2 → ∃ v, l[i]? = some v ∧ VLe v v2 ∧ v2.one1 = true
  | [], [], _, i, v2, h => by simp at h
  | v :: l, u :: l2, hv, 0, v2, h => by simp at h; subst h; exact ⟨v, rfl, hv.1, hv.2.1⟩
  | v :: l, u :: l2, hv, i + 1, v2, h => by simpa using VLes.get hv.2.2 i v2 (by simpa using h)

/-- Object by object, beyond 'k'. -/
def HLe (k : Nat) (H H2 : Hp) : Prop :=
  H2.length = H.length ∧ ∀ i, hget H2 i = hget H i ∨ (k ≤ i ∧ (hget H2 i = none ∨ ∃ o o2, hget H i = some o ∧ hget H2 i = some o2 ∧ o2.elem = o.elem ∧ o2.own = o.own ∧ VLes o.cells o2.cells))

theorem wk_le (hτ : ∀ t, VLe (lk τ t) (lk τ2 t)) (hH : HLe k H H2) : Wk P k τ H τ2 H2 := by
  rintro bg w tmps hbk hb ⟨φ, σ, hr, hp, hl⟩
  obtain ⟨hlen, hH⟩ := hH
  let φ2 : Phi := ⟨fun i => match hget H i, hget H2 i with | some _, none => (match φ i with | .live _ _ _ => .dead none | s => s) | _, _ => φ i, φ.fz⟩
  have hst : ∀ i, φ2 i = φ i ∨ (φ2 i = .dead none ∧ (∃ b o c, φ i = .live b o c) ∧ hget H2 i = none ∧ k ≤ i) := by
    intro i
    have hHi := hH i
    show (match hget H i, hget H2 i with | some _, none => (match φ i with | .live _ _ _ => St.dead none | s => s) | _, _ => φ i) = φ i ∨ ((match hget H i, hget H2 i with | some _, none => (match φ i with | .live _ _ _ => St.dead none | s => s) | _, _ => φ i) = .dead none ∧ _)
    cases h1 : hget H i with
    | none => exact .inl rfl
    | some o =>
      cases h2 : hget H2 i with
      | some o2 => exact .inl rfl
      | none =>
        cases h3 : φ i with
        | absent => exact .inl rfl
        | dead p => exact .inl rfl
        | live b o' c =>
          refine .inr ⟨rfl, ⟨_, _, _, rfl⟩, rfl, ?_⟩
          rcases hHi with h | ⟨h, _⟩
          · rw [h1, h2] at h; cases h
          · exact h
  have hlive : ∀ i b o c, φ2 i = .live b o c → φ i = .live b o c := by
    intro i b o c h
    rcases hst i with e | ⟨e, _⟩
    · rw [← e]; exact h
    · rw [e] at h; cases h
  have hle : Le φ φ2 := ⟨fun i _ => by
    rcases hst i with e | ⟨e, ⟨b, o, c, e2⟩, _⟩
    · exact .inl e
    · exact .inr ⟨e, fun b => by rw [e2]; simp⟩, FLe.refl _⟩
  have hg := (hp_rp H2).get
  have hs := (hp_rp H2).size
  have hobj : ∀ i o2, hget H2 i = some o2 → ∃ o, σ.get i = some o ∧ o2.elem = o.elem ∧ o2.own = o.own ∧ ∀ (j : Nat) (v2 : Value), o2.cells[j]? = some v2 → ∃ v, o.cells[j]? = some v ∧ VLe v v2 ∧ (v.one1 = true → v2.one1 = true) := by
    intro i o2 h2
    rcases hH i with h | ⟨_, h | ⟨o, o2', h3, h4, h5, h6, h7⟩⟩
    · exact ⟨o2, by rw [hr.get, ← h]; exact h2, rfl, rfl, fun j v2 hv => ⟨v2, hv, .refl _, id⟩⟩
    · rw [h2] at h; cases h
    · rw [h2] at h4; cases h4
      exact ⟨o, by rw [hr.get]; exact h3, h5, h6, fun j v2 hv => by
        obtain ⟨v, a1, a2, a3⟩ := h7.get j v2 hv
        exact ⟨v, a1, a2, fun _ => a3⟩⟩
  have hR := hp.rel
  have hR2 : R P φ2 (Bx.hp H2) w := by
    refine ⟨fun i hi => ?_, fun i p hi => ?_, fun i b o c hi => ?_, fun i j b o c b' o' c' ob h1 h2 h3 h4 h5 => ?_, hR.froz, fun i b o c ob h1 h2 h3 => ?_⟩
    · rw [hs, hlen, ← hr.size] at hi
      have := hR.bnd i hi
      rcases hst i with e | ⟨e, ⟨b, o, c, e2⟩, _⟩
      · rw [e]; exact this
      · rw [this] at e2; cases e2
    · rw [hg]
      rcases hst i with e | ⟨e, _, e2, _⟩
      · have h1 := hR.dead i p (by rw [← e]; exact hi)
        rw [hr.get] at h1
        rcases hH i with h | ⟨_, h | ⟨o, o2, h3, _⟩⟩
        · rw [h]; exact h1
        · exact h
        · rw [h1] at h3; cases h3
      · exact e2
    · have hi' := hlive i b o c hi
      obtain ⟨ob, cc, e, fr, g1, g2, g3, g4⟩ := hR.live i b o c hi'
      cases h2 : hget H2 i with
      | none =>
        exfalso
        rw [hr.get] at g1
        have : φ2 i = .dead none := by
          show (match hget H i, hget H2 i with | some _, none => (match φ i with | .live _ _ _ => St.dead none | s => s) | _, _ => φ i) = .dead none
          rw [g1, h2, hi']
        rw [this] at hi; cases hi
      | some o2 =>
        obtain ⟨o1, a1, a2, a3, a4⟩ := hobj i o2 h2
        rw [g1] at a1; cases a1
        refine ⟨o2, cc, e, fr, by rw [hg]; exact h2, g2, fun j v hj => ?_, fun ho => ?_⟩
        · obtain ⟨u, b1, b2, b3⟩ := a4 j v hj
          obtain ⟨c1, v', c2, c3⟩ := g3 j u b1
          exact ⟨b3 c1, v', c2, b2 _ _ (c3.mono hle)⟩
        · rw [a3] at ho
          obtain ⟨x1, x2, x3, x4⟩ := g4 ho
          exact ⟨x1, x2, by rw [x3, a2], x4⟩
    · rw [hg] at h3
      obtain ⟨o1, a1, _, a3, _⟩ := hobj i ob h3
      exact hR.excl i j b o c b' o' c' o1 (hlive _ _ _ _ h1) (hlive _ _ _ _ h2) a1 (by rw [← a3]; exact h4) h5
    · rw [hg] at h2
      obtain ⟨o1, a1, _, a3, _⟩ := hobj i ob h2
      exact hR.nofz i b o c o1 (hlive _ _ _ _ h1) a1 (by rw [← a3]; exact h3)
  have hlt0 : ∀ i, bg.φ i ≠ .absent → i < k := fun i hi => by rw [← hbk]; exact hb.id_lt hi
  refine ⟨φ2, _, hp_rp H2, ⟨?_, ?_, fun i hi ha => ?_, hR2, fun b hb' => ?_, fun i b o c h1 h2 => ?_, hp.keep, hp.grow, hp.env, hp.fz⟩, fun t => hτ t _ _ ((hl t).mono hle)⟩
  · rw [hs, hlen, ← hr.size]; exact hp.size
  · refine ⟨fun i hi => ?_, hp.le.fz⟩
    have := hlt0 i hi
    rcases hst i with e | ⟨_, _, _, e⟩
    · rw [e]; exact hp.le.st i hi
    · omega
  · rw [hbk] at hi
    have := hp.abs i (by rw [hbk]; exact hi) ha
    rcases hst i with e | ⟨_, _, _, e⟩
    · refine ⟨by rw [e]; exact this.1, ?_⟩
      rw [hg, ← this.2, hr.get]
      rcases hH i with h | ⟨h, _⟩
      · exact h
      · omega
    · omega
  · obtain ⟨i, o, c, ob, h1, h2, h3⟩ := hb'
    rw [hg] at h2
    obtain ⟨o1, a1, _, a3, _⟩ := hobj i ob h2
    exact hp.own b ⟨i, o, c, o1, hlive _ _ _ _ h1, a1, by rw [← a3]; exact h3⟩
  · exact hp.new i b o c h1 (hlive _ _ _ _ h2)

/-- Blocks renamed: block 'i' is what 'ι[i]' was. -/
theorem wk_ren2 (ι : List Nat) (u : Nat → Value) (hlen : ι.length = H2.length) (hk : k ≤ H2.length) (hid : ∀ i, i < k → ι[i]? = some i) (hnd : ι.Nodup) (h0 : ∀ i, i < k → hget H2 i = hget H i)
    (hH : ∀ i b, ι[i]? = some b → RenO ι (hget H2 i) (hget H b)) (hτ : ∀ t, VLe (lk τ t) (u t) ∧ (RenV ι (lk τ2 t) (u t) ∨ lk τ2 t = top)) : Wk P k τ H τ2 H2 := by
  rintro bg w tmps hbk hb ⟨φ, σ, hr, hp, hl⟩
  have hR := hp.rel
  let φn : Phi := ⟨fun i => match ι[i]? with | some b => φ b | none => .absent, φ.fz⟩
  have hφ : ∀ i b, ι[i]? = some b → φn i = φ b := fun i b h => by simp only [φn, h]
  have hφi : ∀ i, φn i ≠ .absent → ∃ b, ι[i]? = some b ∧ φn i = φ b := by
    intro i hi
    cases hb : ι[i]? with
    | none => simp only [φn, hb] at hi; exact absurd rfl hi
    | some b => exact ⟨b, rfl, hφ i b hb⟩
  have inj : ∀ i j b, ι[i]? = some b → ι[j]? = some b → i = j := fun i j b h1 h2 => by
    obtain ⟨l1, e1⟩ := List.getElem?_eq_some_iff.1 h1
    obtain ⟨l2, e2⟩ := List.getElem?_eq_some_iff.1 h2
    have hnd := List.pairwise_iff_getElem.1 hnd
    rcases Nat.lt_trichotomy i j with h | h | h
    · exact absurd (e1.trans e2.symm) (hnd i j l1 l2 h)
    · exact h
    · exact absurd (e2.trans e1.symm) (hnd j i l2 l1 h)
  have hg := (hp_rp H2).get
  have hs := (hp_rp H2).size
  have hback : ∀ i o2, hget H2 i = some o2 → ∀ b, ι[i]? = some b → ∃ o, σ.get b = some o ∧ o.elem = o2.elem ∧ o.own = o2.own ∧ RenVs ι o2.cells o.cells := by
    intro i o2 h2 b hb
    have := hH i b hb
    rw [h2] at this
    cases h : hget H b with
    | none => rw [h] at this; exact this.elim
    | some o => rw [h] at this; exact ⟨o, by rw [hr.get]; exact h, this⟩
  have hR2 : R P φn (Bx.hp H2) w := by
    refine ⟨fun i hi => ?_, fun i p hi => ?_, fun i b o c hi => ?_, fun i j b o c b' o' c' ob h1 h2 h3 h4 h5 => ?_, hR.froz, fun i b o c ob h1 h2 h3 => ?_⟩
    · rw [hs, ← hlen] at hi
      simp only [φn, List.getElem?_eq_none hi]
    · obtain ⟨b, hb, e⟩ := hφi i (by rw [hi]; simp)
      have h1 := hR.dead b p (by rw [← e]; exact hi)
      have h2 := hH i b hb
      rw [hr.get] at h1
      rw [h1] at h2
      rw [hg]
      cases h : hget H2 i with
      | none => rfl
      | some o => rw [h] at h2; exact h2.elim
    · obtain ⟨bb, hb, e⟩ := hφi i (by rw [hi]; simp)
      obtain ⟨ob, cc, et, fr, g1, g2, g3, g4⟩ := hR.live bb b o c (by rw [← e]; exact hi)
      have hB := hH i bb hb
      rw [hr.get] at g1
      rw [g1] at hB
      cases h : hget H2 i with
      | none => rw [h] at hB; exact hB.elim
      | some o0 =>
        rw [h] at hB
        obtain ⟨e1, e2, e3⟩ := hB
        refine ⟨o0, cc, et, fr, by rw [hg]; exact h, g2, fun j v hj => ?_, fun ho => ?_⟩
        · obtain ⟨v2, hj2, hren⟩ := e3.get j v hj
          obtain ⟨a1, v', a2, a3⟩ := g3 j v2 hj2
          exact ⟨by rw [← hren.one]; exact a1, v', a2, hren.in hφ rfl a3⟩
        · obtain ⟨x1, x2, x3, x4⟩ := g4 (by rw [e2]; exact ho)
          exact ⟨x1, x2, by rw [x3, e1], x4⟩
    · obtain ⟨bi, hbi, ei⟩ := hφi i (by rw [h1]; simp)
      obtain ⟨bj, hbj, ej⟩ := hφi j (by rw [h2]; simp)
      rw [hg] at h3
      obtain ⟨oi, a1, _, a3, _⟩ := hback i ob h3 bi hbi
      exact hR.excl bi bj b o c b' o' c' oi (by rw [← ei]; exact h1) (by rw [← ej]; exact h2) a1 (by rw [a3]; exact h4) (fun e => h5 (inj i j bi hbi (by rw [e]; exact hbj)))
    · obtain ⟨bi, hbi, ei⟩ := hφi i (by rw [h1]; simp)
      rw [hg] at h2
      obtain ⟨oi, a1, _, a3, _⟩ := hback i ob h2 bi hbi
      exact hR.nofz bi b o c oi (by rw [← ei]; exact h1) a1 (by rw [a3]; exact h3)
  have hlt0 : ∀ i, bg.φ i ≠ .absent → i < k := fun i hi => by rw [← hbk]; exact hb.id_lt hi
  refine ⟨φn, _, hp_rp H2, ⟨?_, ⟨fun i hi => ?_, hp.le.fz⟩, fun i hi ha => ?_, hR2, fun b hb' => ?_, fun i b o c h1 h2 => ?_, hp.keep, hp.grow, hp.env, hp.fz⟩, fun t => ?_⟩
  · rw [hs, hbk]; exact hk
  · rw [hφ i i (hid i (hlt0 i hi))]; exact hp.le.st i hi
  · rw [hbk] at hi
    have h1 := hp.abs i (by rw [hbk]; exact hi) ha
    refine ⟨by rw [hφ i i (hid i hi)]; exact h1.1, ?_⟩
    rw [hg, ← h1.2, hr.get]
    exact h0 i hi
  · obtain ⟨i, o, c, ob, h1, h2, h3⟩ := hb'
    obtain ⟨bi, hbi, ei⟩ := hφi i (by rw [h1]; simp)
    rw [hg] at h2
    obtain ⟨oi, a1, _, a3, _⟩ := hback i ob h2 bi hbi
    exact hp.own b ⟨bi, o, c, oi, by rw [← ei]; exact h1, a1, by rw [a3]; exact h3⟩
  · obtain ⟨bi, hbi, ei⟩ := hφi i (by rw [h2]; simp)
    refine hp.new bi b o c ?_ (by rw [← ei]; exact h2)
    by_cases hik : i < k
    · have := hid i hik
      rw [hbi] at this; cases this
      exact h1
    · refine hb.bnd bi ?_
      rw [hbk]
      by_cases hbk2 : bi < k
      · have := inj i bi bi hbi (hid bi hbk2)
        omega
      · omega
  · obtain ⟨h0, h | h⟩ := hτ t
    · exact h.in hφ rfl (h0 _ _ (hl t))
    · rw [h]; exact .top _

end Go.Bx

namespace Go.Bx
variable {P : Program}

/-! ### Freezing -/

def fL (b : Nat) (t : Ty) (l : List (den t)) : L → L
  | .own b' n nl => cond (Nat.beq b' b) (.sl t l) (.own b' n nl)
  | x => x
def fS0 (b : Nat) (t : Ty) (l : List (den t)) : S0 → S0
  | .one x => .one (fL b t l x)
  | .agg cs => .agg (cs.map (fL b t l))
  | .ep cs => .ep cs
  | .lp b' t' j o => .lp b' t' j o
def fSV (b : Nat) (t : Ty) (l : List (den t)) : SV → SV
  | .s x => .s (fS0 b t l x)
  | .tup xs => .tup (xs.map (fS0 b t l))
  | .clo f xs ys => .clo f (xs.map (fS0 b t l)) (ys.map (fS0 b t l))
def fT (b : Nat) (t : Ty) (l : List (den t)) (τ : SFr) : SFr := τ.map fun p => (p.1, fSV b t l p.2)
def isOnes (cs : List L) : Bool := cs.all fun x => !isTop x
def fOb (b : Nat) (t : Ty) (l : List (den t)) : Ob → Ob
  | .cells cs e => cond (isOnes cs) (.cells (cs.map (fL b t l)) e) (.cells cs e)
  | o => o
def fH (k b : Nat) (t : Ty) (l : List (den t)) (H : SH) : SH := (H.take k ++ (H.drop k).map (fOb b t l)).set b .dead

/-- The lengths that are known agree. -/
def oL (b n : Nat) (A : Prop) : L → Prop
  | .own b' n' _ => cond (Nat.beq b' b) (n' = n ∧ A) A
  | _ => A
def oLs (b n : Nat) (A : Prop) : List L → Prop
  | [] => A
  | x :: r => oL b n (oLs b n A r) x
def oS0 (b n : Nat) (A : Prop) : S0 → Prop
  | .one x => oL b n A x
  | .agg cs => oLs b n A cs
  | _ => A
def oS0s (b n : Nat) (A : Prop) : List S0 → Prop
  | [] => A
  | x :: r => oS0 b n (oS0s b n A r) x
def oSV (b n : Nat) (A : Prop) : SV → Prop
  | .s x => oS0 b n A x
  | .tup xs => oS0s b n A xs
  | .clo _ xs ys => oS0s b n (oS0s b n A ys) xs
def oT (b n : Nat) (A : Prop) : SFr → Prop
  | [] => A
  | (_, v) :: r => oSV b n (oT b n A r) v
def oH (b n : Nat) (A : Prop) : SH → Prop
  | [] => A
  | .cells cs _ :: r => oLs b n (oH b n A r) cs
  | _ :: r => oH b n A r

def okL (b n : Nat) (x : L) : Prop := ∀ b' n' nl, x = .own b' n' nl → b' = b → n' = n
theorem oL_ok {b n : Nat} {A : Prop} {x : L} (h : oL b n A x) : okL b n x ∧ A := by
  cases x with
  | own b' n' nl =>
    simp only [oL] at h
    by_cases hb : b' = b
    · subst hb
      rw [Nat.beq_refl, cond_true] at h
      exact ⟨fun _ _ _ e _ => by cases e; exact h.1, h.2⟩
    · rw [beqF hb, cond_false] at h
      exact ⟨fun _ _ _ e e2 => by cases e; exact absurd e2 hb, h⟩
  | _ => exact ⟨fun _ _ _ e => (by cases e), h⟩
theorem oLs_ok {b n : Nat} {A : Prop} : ∀ {l : List L}, oLs b n A l → (∀ x ∈ l, okL b n x) ∧ A
  | [], h => ⟨fun _ h => (by cases h), h⟩
  | x :: r, h => by
    obtain ⟨h1, h2⟩ := oL_ok h
    obtain ⟨h3, h4⟩ := oLs_ok h2
    exact ⟨fun y hy => by (rcases List.mem_cons.1 hy with rfl | hy; exact h1; exact h3 y hy), h4⟩
def okS0 (b n : Nat) : S0 → Prop
  | .one x => okL b n x
  | .agg cs => ∀ x ∈ cs, okL b n x
  | _ => True
theorem oS0_ok {b n : Nat} {A : Prop} {x : S0} (h : oS0 b n A x) : okS0 b n x ∧ A := by
  cases x with
  | one x => exact oL_ok h
  | agg cs => exact oLs_ok h
  | _ => exact ⟨trivial, h⟩
theorem oS0s_ok {b n : Nat} {A : Prop} : ∀ {l : List S0}, oS0s b n A l → (∀ x ∈ l, okS0 b n x) ∧ A
  | [], h => ⟨fun _ h => (by cases h), h⟩
  | x :: r, h => by
    obtain ⟨h1, h2⟩ := oS0_ok h
    obtain ⟨h3, h4⟩ := oS0s_ok h2
    exact ⟨fun y hy => by (rcases List.mem_cons.1 hy with rfl | hy; exact h1; exact h3 y hy), h4⟩
def okSV (b n : Nat) : SV → Prop
  | .s x => okS0 b n x
  | .tup xs => ∀ x ∈ xs, okS0 b n x
  | .clo _ xs ys => (∀ x ∈ xs, okS0 b n x) ∧ ∀ x ∈ ys, okS0 b n x
theorem oSV_ok {b n : Nat} {A : Prop} {x : SV} (h : oSV b n A x) : okSV b n x ∧ A := by
  cases x with
  | s x => exact oS0_ok h
  | tup xs => exact oS0s_ok h
  | clo f xs ys =>
    obtain ⟨h1, h2⟩ := oS0s_ok h
    obtain ⟨h3, h4⟩ := oS0s_ok h2
    exact ⟨⟨h1, h3⟩, h4⟩
theorem oT_ok {b n : Nat} {A : Prop} : ∀ {τ : SFr}, oT b n A τ → (∀ t, okSV b n (lkS τ t)) ∧ A
  | [], h => ⟨fun _ => fun _ _ _ e => (by cases e), h⟩
  | (s, v) :: r, h => by
    obtain ⟨h1, h2⟩ := oSV_ok h
    obtain ⟨h3, h4⟩ := oT_ok h2
    refine ⟨fun t => ?_, h4⟩
    simp only [lkS]
    cases Nat.beq t s with
    | true => exact h1
    | false => exact h3 t
theorem oH_ok {b n : Nat} {A : Prop} : ∀ {H : SH}, oH b n A H → (∀ (i : Nat) (cs : List L) (e : TypeId), H[i]? = some (Ob.cells cs e) → ∀ x ∈ cs, okL b n x) ∧ A
  | [], h => ⟨fun i cs e hi => (by simp at hi), h⟩
  | .cells cs e :: r, h => by
    obtain ⟨h1, h2⟩ := oLs_ok h
    obtain ⟨h3, h4⟩ := oH_ok h2
    refine ⟨fun i cs' e' hi => ?_, h4⟩
    cases i with
    | zero => simp at hi; rw [← hi.1]; exact h1
    | succ i => exact h3 i cs' e' (by simpa using hi)
  | .dead :: r, h => by
    obtain ⟨h3, h4⟩ := oH_ok (H := r) h
    refine ⟨fun i cs' e' hi => ?_, h4⟩
    cases i with
    | zero => simp at hi
    | succ i => exact h3 i cs' e' (by simpa using hi)
  | .lst .. :: r, h => by
    obtain ⟨h3, h4⟩ := oH_ok (H := r) h
    refine ⟨fun i cs' e' hi => ?_, h4⟩
    cases i with
    | zero => simp at hi
    | succ i => exact h3 i cs' e' (by simpa using hi)

theorem fT_lk (b : Nat) (t : Ty) (l : List (den t)) : ∀ (τ : SFr) (s : Nat), lkS (fT b t l τ) s = fSV b t l (lkS τ s)
  | [], s => rfl
  | (k, v) :: r, s => by
    have := fT_lk b t l r s
    simp only [fT] at this
    simp only [fT, List.map_cons, lkS, this]
    cases Nat.beq s k <;> rfl

theorem isTop_one {x : L} (h : isTop x = false) : x.enc.one1 = true := by
  cases x with
  | v y => cases y <;> first | rfl | cases h
  | own b n nl =>
    simp only [L.enc]
    cases cond nl (Nat.beq n 0) false <;> rfl
  | top => cases h
  | _ => rfl

theorem fOb_elem (b : Nat) (t : Ty) (l : List (den t)) (o : Ob) : ∀ a, o.enc = some a → ∃ a2, (fOb b t l o).enc = some a2 ∧ a2.elem = a.elem ∧ a2.own = a.own := by
  intro a ha
  cases o with
  | cells cs e =>
    simp only [fOb]
    cases isOnes cs <;> (cases ha; exact ⟨_, rfl, rfl, rfl⟩)
  | dead => cases ha
  | lst t' l' nl e => exact ⟨a, ha, rfl, rfl⟩

theorem bv_nil : bvS 0 [] = bvS ([] : List (den .bool)).length (cvs .bool []) := rfl

/-- The second value is one for the first, where the relation may change. -/
def VC (C : Phi → Phi → Prop) (v v2 : Value) : Prop := ∀ φ φ2 v', C φ φ2 → VRel φ v v' → VRel φ2 v2 v'
theorem vcs_rel {C : Phi → Phi → Prop} {φ φ2 : Phi} (hc : C φ φ2) {α : Type} {f g : α → Value} : ∀ {l : List α} {l' : List Value}, (∀ x ∈ l, VC C (f x) (g x)) → VsRel φ (l.map f) l' → VsRel φ2 (l.map g) l'
  | [], _, _, h => by cases h; exact .nil
  | x :: l, _, hv, h => by
    simp only [List.map_cons] at h ⊢
    cases h with
    | cons h1 h2 => exact .cons (hv x (by simp) _ _ _ hc h1) (vcs_rel hc (fun y hy => hv y (by simp [hy])) h2)
theorem vc_agg {C : Phi → Phi → Prop} {α : Type} {f g : α → Value} {l : List α} (hv : ∀ x ∈ l, VC C (f x) (g x)) (h1 : ∀ x ∈ l, (f x).one1 = true → (g x).one1 = true) : VC C (.agg (l.map f).toArray) (.agg (l.map g).toArray) := by
  intro φ φ2 v' hc hr
  cases hr with
  | agg h2 h =>
    simp only [List.toList_toArray] at h h2
    refine .agg (fun y hy => ?_) (vcs_rel hc hv h)
    simp only [List.toList_toArray, List.mem_map] at hy
    obtain ⟨x, hx, rfl⟩ := hy
    exact h1 x hx (h2 _ (List.mem_map_of_mem hx))
theorem vc_tuple {C : Phi → Phi → Prop} {α : Type} {f g : α → Value} {l : List α} (hv : ∀ x ∈ l, VC C (f x) (g x)) : VC C (.tuple (l.map f).toArray) (.tuple (l.map g).toArray) := by
  intro φ φ2 v' hc hr
  cases hr with
  | tuple h =>
    simp only [List.toList_toArray] at h
    exact .tuple (vcs_rel hc hv h)
theorem vc_func {C : Phi → Phi → Prop} {α : Type} {f g : α → Value} {fn : FuncId} {l m : List α} (hv : ∀ x ∈ l, VC C (f x) (g x)) (hm : ∀ x ∈ m, VC C (f x) (g x)) : VC C (.func (.func fn) (l.map f).toArray (m.map f).toArray) (.func (.func fn) (l.map g).toArray (m.map g).toArray) := by
  intro φ φ2 v' hc hr
  cases hr with
  | func _ h1 h2 =>
    simp only [List.toList_toArray] at h1 h2
    exact .func fn (vcs_rel hc hv h1) (vcs_rel hc hm h2)

/-- A change that makes a list out of a slice of block 'b'. -/
structure FC (C : Phi → Phi → Prop) (b : Nat) (t : Ty) (l : List (den t)) : Prop where
  same : ∀ v, VC C v v
  sl : ∀ n nl, n = l.length → VC C (L.own b n nl).enc (L.sl t l).enc

theorem fL_v {C : Phi → Phi → Prop} {b : Nat} {t : Ty} {l : List (den t)} (hc : FC C b t l) {x : L} (hx : okL b l.length x) : VC C x.enc (fL b t l x).enc := by
  obtain ⟨h1, h2⟩ := hc
  cases x with
  | own b' n nl =>
    simp only [fL]
    by_cases hb : b' = b
    · subst hb
      rw [Nat.beq_refl, cond_true]
      exact h2 n nl (hx _ _ _ rfl rfl)
    · rw [beqF hb, cond_false]; exact h1 _
  | _ => exact h1 _
theorem fL_one (b : Nat) (t : Ty) (l : List (den t)) (x : L) (h : x.enc.one1 = true) : (fL b t l x).enc.one1 = true := by
  cases x with
  | own b' n nl =>
    simp only [fL]
    cases Nat.beq b' b with
    | true => rfl
    | false => exact h
  | _ => exact h
theorem encs_fL (b : Nat) (t : Ty) (l : List (den t)) (cs : List L) : encs (cs.map (fL b t l)) = cs.map fun x => (fL b t l x).enc := by simp [encs, Function.comp_def]
theorem fS0_v {C : Phi → Phi → Prop} {b : Nat} {t : Ty} {l : List (den t)} (hc : FC C b t l) {x : S0} (hx : okS0 b l.length x) : VC C x.enc (fS0 b t l x).enc := by
  cases x with
  | one x => exact fL_v hc hx
  | agg cs =>
    simp only [S0.enc, fS0, encs_fL]
    exact vc_agg (fun x hxm => fL_v hc (hx x hxm)) (fun x _ => fL_one b t l x)
  | _ => exact hc.same _
theorem fSV_v {C : Phi → Phi → Prop} {b : Nat} {t : Ty} {l : List (den t)} (hc : FC C b t l) {x : SV} (hx : okSV b l.length x) : VC C x.enc (fSV b t l x).enc := by
  cases x with
  | s x => exact fS0_v hc hx
  | tup xs =>
    simp only [SV.enc, fSV, List.map_map]
    exact vc_tuple (f := S0.enc) (g := S0.enc ∘ fS0 b t l) fun x hxm => fS0_v hc (hx x hxm)
  | clo f xs ys =>
    simp only [SV.enc, fSV, List.map_map]
    exact vc_func (f := S0.enc) (g := S0.enc ∘ fS0 b t l) (fun x hxm => fS0_v hc (hx.1 x hxm)) (fun x hxm => fS0_v hc (hx.2 x hxm))

theorem fH_get (k b : Nat) (t : Ty) (l : List (den t)) (H : SH) (i : Nat) : (fH k b t l H)[i]? = if i = b ∧ b < H.length then some .dead else if i < k then H[i]? else (H[i]?).map (fOb b t l) := by
  unfold fH
  have hlen : (H.take k ++ (H.drop k).map (fOb b t l)).length = H.length := by simp; omega
  by_cases hi : i = b
  · subst hi
    by_cases hl : i < H.length
    · rw [if_pos ⟨rfl, hl⟩, List.getElem?_set_self (by rw [hlen]; exact hl)]
    · rw [if_neg (by omega), List.getElem?_eq_none (by rw [List.length_set, hlen]; omega), List.getElem?_eq_none (by omega)]
      split <;> rfl
  · rw [if_neg (by omega), List.getElem?_set_ne (Ne.symm hi)]
    by_cases hk : i < k
    · rw [if_pos hk]
      by_cases hl : i < H.length
      · rw [List.getElem?_append_left (by simp; omega), List.getElem?_take_of_lt hk]
      · rw [List.getElem?_eq_none (by rw [hlen]; omega), List.getElem?_eq_none (by omega)]
    · rw [if_neg hk]
      by_cases hl : i < H.length
      · rw [List.getElem?_append_right (by simp; omega), List.getElem?_map, List.getElem?_drop, List.length_take]
        congr 2
        omega
      · rw [List.getElem?_eq_none (by rw [hlen]; omega), List.getElem?_eq_none (by omega)]; rfl
theorem fH_length (k b : Nat) (t : Ty) (l : List (den t)) (H : SH) : (fH k b t l H).length = H.length := by unfold fH; simp; omega

theorem isOnes_mem {cs : List L} (h : isOnes cs = true) : ∀ x ∈ cs, isTop x = false := fun x hx => by
  have := List.all_eq_true.1 h x hx
  simpa using this

/-- Object by object. -/
theorem fOb_cases (b : Nat) (t : Ty) (l : List (den t)) (o : Ob) : (fOb b t l o).enc = o.enc ∨ ∃ cs e, o = .cells cs e ∧ isOnes cs = true ∧ (fOb b t l o).enc = some ⟨cs.map fun x => (fL b t l x).enc, e, true⟩ := by
  cases o with
  | cells cs e =>
    simp only [fOb]
    cases h : isOnes cs with
    | false => exact .inl rfl
    | true => exact .inr ⟨cs, e, rfl, h, by simp only [cond_true, Ob.enc, encs_fL]⟩
  | _ => exact .inl rfl

theorem vfs_of {j : Nat} {cs0 : List Value} {b : Nat} {t : Ty} {l : List (den t)} (hc : FC (Froz j cs0) b t l) : ∀ {cs : List L}, (∀ x ∈ cs, okL b l.length x) → (∀ x ∈ cs, isTop x = false) → VFs j cs0 (encs cs) (cs.map fun x => (fL b t l x).enc)
  | [], _, _ => trivial
  | x :: r, h1, h2 => ⟨fL_v hc (h1 x (by simp)), fL_one b t l x (isTop_one (h2 x (by simp))), vfs_of hc (fun y hy => h1 y (by simp [hy])) (fun y hy => h2 y (by simp [hy]))⟩
theorem vles_of {b : Nat} {t : Ty} {l : List (den t)} (hc : FC Eq b t l) : ∀ {cs : List L}, (∀ x ∈ cs, okL b l.length x) → (∀ x ∈ cs, isTop x = false) → VLes (encs cs) (cs.map fun x => (fL b t l x).enc)
  | [], _, _ => trivial
  | x :: r, h1, h2 => ⟨fun φ v' hv => fL_v hc (h1 x (by simp)) φ φ v' rfl hv, fL_one b t l x (isTop_one (h2 x (by simp))), vles_of hc (fun y hy => h1 y (by simp [hy])) (fun y hy => h2 y (by simp [hy]))⟩

theorem wk_freezeS {k b : Nat} {t : Ty} {l : List (den t)} {nl : Bool} {e : TypeId} {τ : SFr} {H : SH} (hk : k ≤ b) (hb : H[b]? = some (.lst t l nl e)) (hT : ∀ s, okSV b l.length (lkS τ s))
    (hH : ∀ (i : Nat) (cs : List L) (e : TypeId), H[i]? = some (Ob.cells cs e) → ∀ x ∈ cs, okL b l.length x) : Wk P k (encT τ) (encH H) (encT (fT b t l τ)) (encH (fH k b t l H)) := by
  have hbl : b < H.length := (List.getElem?_eq_some_iff.1 hb).1
  have hgt : ∀ i, i ≠ b → i < k ∨ ¬ i < k → hget (encH (fH k b t l H)) i = hget (encH H) i ∨ (k ≤ i ∧ ∃ cs e, H[i]? = some (Ob.cells cs e) ∧ isOnes cs = true ∧ hget (encH (fH k b t l H)) i = some ⟨cs.map fun x => (fL b t l x).enc, e, true⟩) := by
    intro i hi hik
    rw [encH_get, encH_get, fH_get, if_neg (by omega)]
    by_cases h : i < k
    · rw [if_pos h]; exact .inl rfl
    · rw [if_neg h]
      cases hHi : H[i]? with
      | none => exact .inl rfl
      | some o =>
        rcases fOb_cases b t l o with h1 | ⟨cs, e, rfl, h2, h3⟩
        · exact .inl h1
        · exact .inr ⟨by omega, cs, e, rfl, h2, h3⟩
  have hgb : hget (encH (fH k b t l H)) b = none := by rw [encH_get, fH_get, if_pos ⟨rfl, hbl⟩]; rfl
  cases he : (Ob.lst t l nl e).enc with
  | some o =>
    have ho : hget (encH H) b = some o := by rw [encH_at hb]; exact he
    have hoo : o = ⟨cvs t l, e, true⟩ ∧ cond nl l.isEmpty false = false := by
      simp only [Ob.enc] at he
      cases hc : cond nl l.isEmpty false with
      | true => rw [hc] at he; cases he
      | false => rw [hc] at he; cases he; exact ⟨rfl, rfl⟩
    obtain ⟨rfl, hne⟩ := hoo
    have hc : FC (Froz b (cvs t l)) b t l := by
      refine ⟨fun v => vf_same _ _ v, fun n nl' hn => ?_⟩
      subst hn
      have hs := vf_slice b (cvs t l) 0 l.length 1 (szT t)
      rw [List.drop_zero, List.take_of_length_le (by rw [cvs_length]; exact Nat.le_refl _)] at hs
      simp only [L.enc]
      cases hcc : cond nl' (Nat.beq l.length 0) false with
      | false => exact hs
      | true =>
        have hl0 : l = [] := by
          cases nl' with
          | false => cases hcc
          | true => exact List.length_eq_zero_iff.1 (Nat.eq_of_beq_eq_true hcc)
        subst hl0
        exact vf_le VLe.nil
    refine wk_freeze b ho rfl (cvs_one t l) (cvs_pvs t l) (fun s => ?_) ⟨hk, by rw [encH_length, encH_length, fH_length], hgb, fun i hi => ?_⟩
    · rw [lk_enc, lk_enc, fT_lk]
      exact fSV_v hc (hT s)
    · rcases hgt i hi (Nat.lt_or_ge i k |>.imp id (by omega)) with h | ⟨h1, cs, e', h2, h3, h4⟩
      · exact .inl h
      · exact .inr ⟨.inl h1, ⟨encs cs, e', true⟩, _, by rw [encH_at h2]; rfl, h4, rfl, rfl, vfs_of hc (hH i cs e' h2) (isOnes_mem h3)⟩
  | none =>
    have hl0 : nl = true ∧ l = [] := by
      simp only [Ob.enc] at he
      cases nl with
      | false => cases he
      | true =>
        cases l with
        | nil => exact ⟨rfl, rfl⟩
        | cons x r => cases he
    obtain ⟨rfl, rfl⟩ := hl0
    have ho : Bx.hget (encH H) b = none := by rw [encH_at hb]; rfl
    have hc : FC Eq b t [] := by
      refine ⟨fun v φ φ2 v' e h => by subst e; exact h, fun n nl' hn => ?_⟩
      subst hn
      intro φ φ2 v' e h
      subst e
      cases nl' with
      | true => exact VLe.nil _ _ h
      | false =>
        have h' : VRel φ (.slice (some ⟨b, 0, none⟩) 0 1) v' := h
        cases h' with
        | slc h0 hc h1 => exact .bvs (.bve _ _)
    refine wk_le (fun s φ v' hr => ?_) ⟨by rw [encH_length, encH_length, fH_length], fun i => ?_⟩
    · rw [lk_enc] at hr
      rw [lk_enc, fT_lk]
      exact fSV_v hc (hT s) φ φ v' rfl hr
    · by_cases hi : i = b
      · subst hi
        exact .inl (by rw [hgb, ho])
      · rcases hgt i hi (Nat.lt_or_ge i k |>.imp id (by omega)) with h | ⟨h1, cs, e', h2, h3, h4⟩
        · exact .inl h
        · exact .inr ⟨h1, .inr ⟨⟨encs cs, e', true⟩, _, by rw [encH_at h2]; rfl, h4, rfl, rfl, vles_of hc (hH i cs e' h2) (isOnes_mem h3)⟩⟩

end Go.Bx

namespace Go.Bx
set_option maxRecDepth 4000
variable {P : Program} {nt k : Nat} {Q : Out} {l : List Item}

def s0 : (t : Ty) → den t → S0
  | .int k, x => .one (.v (.int k x))
  | .bool, x => .one (.v (.bool x))
  | .str, x => .one (.v (.string x))
  | .sl e, l => .one (.sl e l)
  | .unit, _ => .agg []
  | .pair a b, x => .agg (cl (.pair a b) x)
@[reducible] def denR : List Ty → Type
  | [] => Unit
  | [t] => den t
  | t :: u :: r => den t × denR (u :: r)
def s0s : (rt : List Ty) → denR rt → List S0
  | [], _ => []
  | [t], x => [s0 t x]
  | t :: u :: r, x => s0 t x.1 :: s0s (u :: r) x.2
def svR (rt : List Ty) (x : denR rt) : SV := match s0s rt x with | [a] => .s a | l => .tup l

theorem s0_pv : ∀ (t : Ty) (x : den t), PV (s0 t x).enc
  | .int _, _ => pv_int _ _
  | .bool, _ => pv_bool _
  | .str, _ => pv_string _
  | .sl _, _ => pv_bvS _ _ _
  | .unit, _ => pv_agg (by simp [encs]; exact pvs_nil)
  | .pair a b, x => pv_agg (by rw [List.toList_toArray, encs_cl]; exact cv_pvs _ _)
theorem s0s_pv : ∀ (rt : List Ty) (x : denR rt), PVs ((s0s rt x).map S0.enc)
  | [], _ => pvs_nil
  | [t], x => pvs_cons (s0_pv t x) pvs_nil
  | t :: u :: r, x => pvs_cons (s0_pv t x.1) (s0s_pv (u :: r) x.2)
theorem svR_pack (rt : List Ty) (x : denR rt) : (svR rt x).enc = packRes ((s0s rt x).map S0.enc) := by
  unfold svR
  split
  · rename_i a h; rw [h]; rfl
  · rename_i l h
    generalize s0s rt x = m at h
    cases m with
    | nil => rfl
    | cons a r => cases r with
      | nil => exact absurd rfl (h a)
      | cons b r => rfl
theorem svR_pv (rt : List Ty) (x : denR rt) : PV (svR rt x).enc := by
  have := s0s_pv rt x
  rw [svR_pack]
  generalize s0s rt x = m at this
  cases m with
  | nil => exact pv_tuple this
  | cons a r => cases r with
    | nil =>
      have h := this a.enc (by simp)
      exact h
    | cons b r => exact pv_tuple this

/-- Typed arguments. -/
def argsT (ts : List Ty) (x : denR ts) : List SV := (s0s ts x).map SV.s
theorem argsT_pv (ts : List Ty) (x : denR ts) : PVs ((argsT ts x).map SV.enc) := by
  unfold argsT
  rw [List.map_map]
  exact s0s_pv ts x
/-- A plain call, typed. -/
def PurT (P : Program) (f : FuncId) (ts : List Ty) (x : denR ts) (rt : List Ty) (r : denR rt) : Prop := Pur P f ((argsT ts x).map SV.enc) (svR rt r).enc
/-- A method of a block, typed. -/
def MethT (P : Program) (f : FuncId) (e : TypeId) (t : Ty) (o : den t) (ts : List Ty) (x : denR ts) (rt : List Ty) (r : denR rt) (o' : den t) : Prop :=
  Meth P f ((argsT ts x).map SV.enc) ⟨cv t o, e, true⟩ (svR rt r).enc ⟨cv t o', e, true⟩

inductive Sig where
  | pure (rt : List Ty)
  | meth (t : Ty) (rt : List Ty)
  | fresh (t : Ty) (e : TypeId)
  | fn (ts rt : List Ty) (pre : denR ts → Prop) (spec : denR ts → denR rt)
  | mfn (e : TypeId) (t : Ty) (ts rt : List Ty) (pre : den t → denR ts → Prop) (spec : den t → denR ts → denR rt × den t)
abbrev Sg := FuncId → Option Sig
def SigOK (P : Program) (g : FuncId) : Sig → Prop
  | .fn ts rt pre spec => ∀ x, pre x → PurT P g ts x rt (spec x)
  | .mfn e t ts rt pre spec => ∀ o x, pre o x → MethT P g e t o ts x rt (spec o x).1 (spec o x).2
  | _ => True
def SgOK (P : Program) (sg : Sg) : Prop := ∀ g s, sg g = some s → SigOK P g s
def sgL : List (FuncId × Sig) → Sg
  | [], _ => none
  | (f, s) :: r, g => cond (Nat.beq g f) (some s) (sgL r g)
def SgsOK (P : Program) : List (FuncId × Sig) → Prop
  | [] => True
  | (f, s) :: r => SigOK P f s ∧ SgsOK P r
theorem SgsOK.ok {P : Program} : ∀ {l : List (FuncId × Sig)}, SgsOK P l → SgOK P (sgL l)
  | [], _, g, s, h => by cases h
  | (f, u) :: r, h, g, s, hs => by
    simp only [sgL] at hs
    by_cases hg : g = f
    · subst hg
      rw [Nat.beq_refl, cond_true] at hs
      cases hs
      exact h.1
    · rw [beqF hg, cond_false] at hs
      exact SgsOK.ok h.2 g s hs

/-- The typed value in a cell list or a single cell. -/
def unS0 : (t : Ty) → S0 → Option (den t)
  | .pair a b, .agg cs => (match uncl false (.pair a b) cs with | some (x, []) => some x | _ => none)
  | .unit, .agg [] => some ()
  | .int k, .one x => (match uncl false (.int k) [x] with | some (x, []) => some x | _ => none)
  | .bool, .one x => (match uncl false .bool [x] with | some (x, []) => some x | _ => none)
  | .str, .one x => (match uncl false .str [x] with | some (x, []) => some x | _ => none)
  | .sl e, .one x => (match uncl false (.sl e) [x] with | some (x, []) => some x | _ => none)
  | _, _ => none
theorem unS0_ok {t : Ty} {v : S0} {x : den t} (h : unS0 t v = some x) : v.enc = (s0 t x).enc := by
  unfold unS0 at h
  split at h
  · split at h
    · rename_i hy
      cases h
      have := uncl_eq _ hy
      simp only [encs, List.map_nil, List.append_nil] at this
      simp only [S0.enc, s0, encs_cl]
      rw [← this]; rfl
    · cases h
  · rfl
  all_goals first
    | (split at h
       · rename_i hy
         cases h
         have := uncl_eq _ hy
         simp only [encs, List.map_cons, List.map_nil, List.append_nil, cv, List.cons.injEq, and_true] at this
         exact this
       · cases h)
    | cases h
def unArgs : (ts : List Ty) → List SV → Option (denR ts)
  | [], [] => some ()
  | [t], [.s v] => unS0 t v
  | t :: u :: r, .s v :: vs => (match unS0 t v with
    | some x => (match unArgs (u :: r) vs with | some y => some (x, y) | none => none)
    | none => none)
  | _, _ => none
theorem unArgs_ok : ∀ {ts : List Ty} {vs : List SV} {x : denR ts}, unArgs ts vs = some x → vs.map SV.enc = (argsT ts x).map SV.enc
  | [], [], x, h => rfl
  | [t], [.s v], x, h => by
    have := unS0_ok (t := t) h
    simp only [argsT, s0s, List.map_cons, List.map_nil, SV.enc, this]
  | t :: u :: r, .s v :: vs, x, h => by
    simp only [unArgs] at h
    split at h
    · rename_i a ha
      split at h
      · rename_i y hy
        cases h
        have h1 := unS0_ok ha
        have h2 := unArgs_ok hy
        simp only [argsT, s0s, List.map_cons, SV.enc, h1] at h2 ⊢
        rw [h2]
      · cases h
    · cases h

/-- A call: its callee and arguments, the result, the heap behind it, the blocks that it writes. -/
def vcall (P : Program) (sg : Sg) (τ : SFr) (H : SH) (f : Operand) (args : List Operand) (K : VK) : Prop :=
  match opdS τ f with
  | .clo g first cap => (match sg g with
    | some (.pure rt) => ∃ r : denR rt, Pur P g ((first.map SV.s ++ (args.map (opdS τ) ++ cap.map SV.s)).map SV.enc) (svR rt r).enc ∧ fv (svR rt r) fun v => K v H []
    | some (.meth t rt) => (match first.map SV.s ++ (args.map (opdS τ) ++ cap.map SV.s) with
      | .s (.one (.ptr b 0)) :: rest => (match H[b]? with
        | some (.cells cs e) => (match uncl false t cs with
          | some (x, []) => ∃ (r : denR rt) (x' : den t), Meth P g (rest.map SV.enc) ⟨cv t x, e, true⟩ (svR rt r).enc ⟨cv t x', e, true⟩ ∧ fv (svR rt r) fun v => fc (cl t x') fun cs => fh (H.set b (.cells cs e)) fun H' => K v H' [b]
          | _ => False)
        | _ => False)
      | _ => False)
    | some (.fresh t e) => ∃ l : List (den t), Fresh P g ((first.map SV.s ++ (args.map (opdS τ) ++ cap.map SV.s)).map SV.enc) l.length ⟨cvs t l, e, true⟩ ∧ flen lits H fun N => fh (H ++ [.lst t l false e]) fun H' => K (.s (.one (.own N l.length false))) H' []
    | some (.fn ts rt pre spec) => (match unArgs ts (first.map SV.s ++ (args.map (opdS τ) ++ cap.map SV.s)) with
      | some x => pre x ∧ ∀ r, r = spec x → fv (svR rt r) fun v => K v H []
      | none => False)
    | some (.mfn e t ts rt pre spec) => (match first.map SV.s ++ (args.map (opdS τ) ++ cap.map SV.s) with
      | .s (.one (.ptr b 0)) :: rest => (match H[b]?, unArgs ts rest with
        | some (.cells cs e'), some x => (match uncl false t cs with
          | some (o, []) => cond (Nat.beq e' e) (pre o x ∧ ∀ r, r = spec o x → fv (svR rt r.1) fun v => fc (cl t r.2) fun cs => fh (H.set b (.cells cs e)) fun H' => K v H' [b]) False
          | _ => False)
        | _, _ => False)
      | _ => False)
    | none => False)
  | _ => False

def CallOK (P : Program) (τ : SFr) (H : SH) (op : AOp) (K : VK) : Prop :=
  ∃ sv H' ws g as, K sv H' ws ∧ calleeOf (opdL (encT τ)) (encH H) op = some (g, as) ∧ SpecH P g as (encH H) sv.enc (encH H') ∧ WS ws (encH H) (encH H')

theorem vcall_ok {sg : Sg} (hE : SgOK P sg) {τ : SFr} {H : SH} {f : Operand} {args : List Operand} {K : VK} (h : vcall P sg τ H f args K) : CallOK P τ H (.call f args) K := by
  unfold vcall at h
  simp only [fv_iff, fc_iff, fh_iff] at h
  split at h
  · rename_i g first cap hf
    have hfe : opdL (encT τ) f = .func (.func g) (first.map S0.enc).toArray (cap.map S0.enc).toArray := by rw [opd_enc, hf]; rfl
    have hce := c_callv (H := encH H) args hfe
    have has : (first.map S0.enc).toArray.toList ++ (args.map (opdL (encT τ)) ++ (cap.map S0.enc).toArray.toList) = (first.map SV.s ++ (args.map (opdS τ) ++ cap.map SV.s)).map SV.enc := by
      simp only [List.toList_toArray, List.map_append, List.map_map]
      congr 1
      congr 1
      rw [← map_opd, List.map_map]
    rw [has] at hce
    split at h
    · rename_i rt hs
      obtain ⟨r, hp, hk⟩ := h
      exact ⟨_, _, _, _, _, hk, hce, hp.any _, WS.refl _⟩
    · rename_i t rt hs
      split at h
      · rename_i b rest hargs
        split at h
        · rename_i cs e hb
          split at h
          · rename_i x hx
            obtain ⟨r, x', hm, hk⟩ := h
            have hcs := uncl_eq t hx
            simp only [encs, List.map_nil, List.append_nil] at hcs
            have hg : hget (encH H) b = some ⟨cv t x, e, true⟩ := by rw [encH_at hb, ← hcs]; rfl
            rw [hargs] at hce
            have hset : encH (H.set b (.cells (cl t x') e)) = hput (encH H) b ⟨cv t x', e, true⟩ := encH_set _ _ _ _ (by simp only [Ob.enc, encs_cl])
            refine ⟨_, _, _, _, _, hk, hce, ?_, ?_⟩
            · rw [hset]; exact hm.any hg
            · rw [hset]; exact WS.put hg
          · cases h
        · cases h
      · cases h
    · rename_i t e hs
      obtain ⟨r, hp, hk⟩ := h
      have hk := flen_ok hk
      have hpush : encH (H ++ [.lst t r false e]) = hpush (encH H) ⟨cvs t r, e, true⟩ := encH_push _ _ _ rfl
      refine ⟨_, _, _, _, _, hk, hce, ?_, ?_⟩
      · rw [hpush]
        have := hp.any (encH H)
        rw [encH_length] at this
        exact this
      · rw [hpush]; exact WS.push _ _
    · rename_i ts rt pre spec hs
      split at h
      · rename_i x hx
        obtain ⟨hp, hk⟩ := h
        have hk := hk _ rfl
        have hpu : PurT P g ts x rt (spec x) := hE g _ hs x hp
        unfold PurT at hpu
        rw [← unArgs_ok hx] at hpu
        exact ⟨_, _, _, _, _, hk, hce, hpu.any _, WS.refl _⟩
      · cases h
    · rename_i e t ts rt pre spec hs
      split at h
      · rename_i b rest hargs
        split at h
        · rename_i cs e' x hb hx
          split at h
          · rename_i o ho
            rw [Bool.cond_eq_ite] at h
            split at h
            · rename_i hee
              have := Nat.eq_of_beq_eq_true hee
              subst this
              obtain ⟨hp, hk⟩ := h
              have hk := hk _ rfl
              have hm : MethT P g e' t o ts x rt (spec o x).1 (spec o x).2 := hE g _ hs o x hp
              unfold MethT at hm
              rw [← unArgs_ok hx] at hm
              have hcs := uncl_eq t ho
              simp only [encs, List.map_nil, List.append_nil] at hcs
              have hg : hget (encH H) b = some ⟨cv t o, e', true⟩ := by rw [encH_at hb, ← hcs]; rfl
              rw [hargs] at hce
              have hset : encH (H.set b (.cells (cl t (spec o x).2) e')) = hput (encH H) b ⟨cv t (spec o x).2, e', true⟩ := encH_set _ _ _ _ (by simp only [Ob.enc, encs_cl])
              refine ⟨_, _, _, _, _, hk, hce, ?_, ?_⟩
              · rw [hset]; exact hm.any hg
              · rw [hset]; exact WS.put hg
            · cases h
          · cases h
        · cases h
      · cases h
    · cases h
  · cases h

/-! ### Freezing before calls -/

def ownL : L → List Nat
  | .own b _ _ => [b]
  | _ => []
def ownS : SV → List Nat
  | .s (.one x) => ownL x
  | .s (.agg cs) => cs.flatMap ownL
  | _ => []

def vfz (k : Nat) : List Nat → SFr → SH → (SFr → SH → Prop) → Prop
  | [], τ, H, K => K τ H
  | b :: r, τ, H, K => match H[b]? with
    | some (.lst t l _ _) => cond (Nat.ble k b) (oT b l.length (oH b l.length (fst2 (fT b t l τ) (fH k b t l H) fun τ H => vfz k r τ H K) H) τ) False
    | _ => vfz k r τ H K
theorem vfz_ok : ∀ {bs : List Nat} {τ : SFr} {H : SH} {K : SFr → SH → Prop}, vfz k bs τ H K → ∃ τ' H', K τ' H' ∧ Wk P k (encT τ) (encH H) (encT τ') (encH H') ∧ ∀ t b, lkS τ t = .s (.one (.v (.bool b))) → lkS τ' t = .s (.one (.v (.bool b)))
  | [], τ, H, K, h => ⟨τ, H, h, .refl, fun _ _ h => h⟩
  | b :: r, τ, H, K, h => by
    simp only [vfz, fst2_iff] at h
    split at h
    · rename_i t l nl e hb
      rw [Bool.cond_eq_ite] at h
      split at h
      · rename_i hk
        obtain ⟨h1, h⟩ := oT_ok h
        obtain ⟨h2, h⟩ := oH_ok h
        obtain ⟨τ', H', h3, h4, h5⟩ := vfz_ok h
        exact ⟨τ', H', h3, (wk_freezeS (Nat.le_of_ble_eq_true hk) hb h1 h2).trans h4, fun s x hs => h5 s x (by rw [fT_lk, hs]; rfl)⟩
      · cases h
    · exact vfz_ok h

/-! ### Regions in text order -/

def putS (τ : SFr) (d : Option Tmp) (v : SV) : SFr := match d with | some d => (d, v) :: τ | none => τ
theorem putS_enc (τ : SFr) (d : Option Tmp) (v : SV) : encT (putS τ d v) = putL (encT τ) d v.enc := by cases d <;> rfl

def vdo (P : Program) (te : TE) (sg : Sg) (k : Nat) (τ : SFr) (H : SH) (op : AOp) (K : SV → SFr → SH → Prop) : Prop :=
  match op with
  | .call f args => vfz k ((args.map (opdS τ)).flatMap ownS) τ H fun τ1 H1 => vcall P sg τ1 H1 f args fun v H2 _ => K v τ1 H2
  | op => vop te τ H op fun v H' _ => K v τ H'

/-- The guard: what is wanted, and what is known of the temporary then. -/
def vguard (τ : SFr) (g : Option (Option Tmp × Bool)) (yes no : SFr → Prop) : Prop :=
  match g with
  | none => yes τ
  | some (none, _) => no τ
  | some (some t, w) => match lkS τ t with
    | .s (.one (.v (.bool b))) => cnd b (cond w (yes ((t, sv (.bool true)) :: τ)) (no ((t, sv (.bool true)) :: τ))) (cond w (no ((t, sv (.bool false)) :: τ)) (yes ((t, sv (.bool false)) :: τ)))
    | _ => False

theorem lk_same {τ : SFr} {t : Nat} {b : Bool} (h : lkS τ t = .s (.one (.v (.bool b)))) (s : Nat) : lk (encT ((t, sv (.bool b)) :: τ)) s = lk (encT τ) s := by
  simp only [encT, List.map_cons, lk]
  by_cases hs : s = t
  · subst hs
    rw [Nat.beq_refl, cond_true]
    have := lk_enc τ s
    rw [h] at this
    exact this.symm
  · rw [beqF hs, cond_false]

theorem vguard_ok {τ : SFr} {g : Option (Option Tmp × Bool)} {yes no : SFr → Prop} (h : vguard τ g yes no) :
    ∃ τ', (∀ s, lk (encT τ') s = lk (encT τ) s) ∧ (∀ t w, g = some (some t, w) → ∃ b, lkS τ' t = .s (.one (.v (.bool b)))) ∧ ((wantedL (encT τ) g = some true ∧ yes τ') ∨ (wantedL (encT τ) g = some false ∧ no τ')) := by
  unfold vguard at h
  split at h
  · exact ⟨τ, fun _ => rfl, fun _ _ e => (by cases e), .inl ⟨rfl, h⟩⟩
  · exact ⟨τ, fun _ => rfl, fun _ _ e => (by cases e), .inr ⟨rfl, h⟩⟩
  · rename_i t w
    split at h
    · rename_i b hb
      refine ⟨_, lk_same hb, fun t' w' e => by cases e; exact ⟨b, by simp only [lkS, Nat.beq_refl]; rfl⟩, ?_⟩
      have hw : wantedL (encT τ) (some (some t, w)) = some (b == w) := by
        rw [w_some, lk_enc, hb]; rfl
      rw [hw]
      cases b <;> cases w <;> first | exact .inl ⟨rfl, h⟩ | exact .inr ⟨rfl, h⟩
    · cases h

theorem wanted_congr {τ τ' : Fr} (h : ∀ s, lk τ' s = lk τ s) (g : Option (Option Tmp × Bool)) : wantedL τ' g = wantedL τ g := by
  rcases g with _ | ⟨_ | t, w⟩
  · rfl
  · rfl
  · simp only [wantedL, h]

/-- A number gets a name. -/
def nmS (b : Bool) (v : SV) (K : SV → Prop) : Prop :=
  match b, v with
  | true, .s (.one (.v (.int k n))) => ∀ t : Int, t = n → K (.s (.one (.v (.int k t))))
  | _, v => K v
theorem nmS_ok {b : Bool} {v : SV} {K : SV → Prop} (h : nmS b v K) : K v := by
  unfold nmS at h
  split at h
  · exact h _ rfl
  · exact h
def nmD (nm : Nat → Bool) (d : Option Tmp) : Bool := match d with | some d => nm d | none => false

def vops (P : Program) (te : TE) (sg : Sg) (nm : Nat → Bool) (k : Nat) : List AOper → SFr → SH → (SFr → SH → Prop) → Prop
  | [], τ, H, K => K τ H
  | o :: rest, τ, H, K => vguard τ o.guard
      (fun τ => vdo P te sg k τ H o.op fun v τ1 H1 => nmS (nmD nm o.dst) v fun v => vops P te sg nm k rest (putS τ1 o.dst v) H1 K)
      (fun τ => vops P te sg nm k rest (putS τ o.dst unitS) H K)

theorem wk_lk {τ τ' : Fr} {H : Hp} (h : ∀ s, lk τ' s = lk τ s) : Wk P k τ H τ' H := wk_vals fun s => by rw [h]; exact VLe.refl _

theorem vdo_ok {te : TE} {sg : Sg} (hE : SgOK P sg) {τ : SFr} {H : SH} {op : AOp} {K : SV → SFr → SH → Prop} (h : vdo P te sg k τ H op K) {dst : Option Tmp} {g : Option (Option Tmp × Bool)} {chk : List Nat} {rest : List AOper}
    (hw : wantedL (encT τ) g = some true) (hK : ∀ v τ1 H1, K v τ1 H1 → Go P nt k Q (.ops rest :: l) (putL (encT τ1) dst v.enc) (encH H1)) (hg : ∀ t w, g = some (some t, w) → ∃ b, lkS τ t = .s (.one (.v (.bool b)))) :
    Go P nt k Q (.ops (⟨dst, op, g, chk⟩ :: rest) :: l) (encT τ) (encH H) := by
  have hop : vop te τ H op (fun v H' _ => K v τ H') → Go P nt k Q (.ops (⟨dst, op, g, chk⟩ :: rest) :: l) (encT τ) (encH H) := by
    intro h
    obtain ⟨sv, H', ws, hk, ho, _⟩ := vop_ok h
    exact go_op hw ho (hK _ _ _ hk)
  unfold vdo at h
  split at h
  · rename_i f args
    obtain ⟨τ1, H1, h1, hwk⟩ := vfz_ok (P := P) h
    obtain ⟨sv, H', ws, g', as, hk, hc, hs, _⟩ := vcall_ok hE h1
    obtain ⟨hwk, hb⟩ := hwk
    have hw1 : wantedL (encT τ1) g = some true := by
      rcases g with _ | ⟨_ | t, w⟩
      · rfl
      · cases hw
      · obtain ⟨b, hb2⟩ := hg t w rfl
        rw [w_some, lk_enc, hb2] at hw
        rw [w_some, lk_enc, hb t b hb2]
        exact hw
    exact go_wk hwk (go_call hw1 hc hs (hK _ _ _ hk))
  · exact hop h

theorem vops_ok {te : TE} {sg : Sg} {nm : Nat → Bool} (hE : SgOK P sg) : ∀ {ops : List AOper} {τ : SFr} {H : SH} {K : SFr → SH → Prop}, vops P te sg nm k ops τ H K → (∀ τ H, K τ H → Go P nt k Q l (encT τ) (encH H)) → Go P nt k Q (.ops ops :: l) (encT τ) (encH H)
  | [], τ, H, K, h, hK => go_done (hK _ _ h)
  | o :: rest, τ, H, K, h, hK => by
    simp only [vops] at h
    obtain ⟨τ', h1, h2, h3⟩ := vguard_ok h
    refine go_wk (wk_lk h1) ?_
    rcases h3 with ⟨h4, h5⟩ | ⟨h4, h5⟩
    · exact vdo_ok hE (dst := o.dst) (chk := o.chk) h5 (by rw [wanted_congr h1]; exact h4) (fun v τ1 H1 hv => by rw [← putS_enc]; exact vops_ok hE (nmS_ok hv) hK) h2
    · have := vops_ok hE h5 hK
      rw [putS_enc] at this
      exact go_miss (dst := o.dst) (op := o.op) (chk := o.chk) (by rw [wanted_congr h1]; exact h4) this

end Go.Bx

namespace Go.Bx
set_option maxRecDepth 4000
variable {P : Program} {nt k : Nat} {Q : Out} {l : List Item}

abbrev HsS := List (Nat × List Nat × Nat × Nat)
abbrev IdS := List (Nat × List Nat)

def RelW : List (Nat × Hp × Hp) → HsS → Prop
  | [], [] => True
  | (a, H, H') :: r, (b, ws, n, m) :: s => a = b ∧ H.length = n ∧ H'.length = m ∧ WS ws H H' ∧ RelW r s
  | _, _ => False
theorem RelW.mem : ∀ {hs : List (Nat × Hp × Hp)} {ss : HsS}, RelW hs ss → ∀ g ∈ hs, ∃ s ∈ ss, g.1 = s.1 ∧ g.2.1.length = s.2.2.1 ∧ g.2.2.length = s.2.2.2 ∧ WS s.2.1 g.2.1 g.2.2
  | [], [], _, g, hg => by cases hg
  | [], _ :: _, h, _, _ => h.elim
  | _ :: _, [], h, _, _ => h.elim
  | (a, H, H') :: r, (b, ws, n, m) :: s, h, g, hg => by
    obtain ⟨h1, h2, h3, h4, h5⟩ := h
    rcases List.mem_cons.1 hg with rfl | hg
    · exact ⟨_, List.mem_cons_self, h1, h2, h3, h4⟩
    · obtain ⟨x, hx, hh⟩ := RelW.mem h5 g hg
      exact ⟨x, List.mem_cons_of_mem _ hx, hh⟩

def drawnS (n : Nat) (hs : HsS) (ids : IdS) : Bool :=
  ids.all fun i => Nat.blt i.1 n && hs.all fun h => !(i.2.contains h.1) || ((Nat.blt i.1 h.2.2.1 && !(h.2.1.contains i.1)) || Nat.ble h.2.2.2 i.1)

theorem drawnS_ok {H : Hp} {hs : List (Nat × Hp × Hp)} {ss : HsS} {ids : IdS} (hr : RelW hs ss) (h : drawnS H.length ss ids = true) : DrawnL H hs ids := by
  intro i hi
  have h1 := List.all_eq_true.1 h i hi
  simp only [Bool.and_eq_true] at h1
  refine ⟨Nat.le_of_ble_eq_true h1.1, fun g hg hgi => ?_⟩
  obtain ⟨s, hs1, e1, e2, e3, hw⟩ := hr.mem g hg
  have h2 := List.all_eq_true.1 h1.2 s hs1
  simp only [Bool.or_eq_true, Bool.and_eq_true, Bool.not_eq_true', List.contains_eq_mem] at h2
  rcases h2 with h2 | ⟨h2, h3⟩ | h2
  · rw [← e1] at h2
    simp only [decide_eq_false_iff_not] at h2
    exact absurd hgi h2
  · have hlt : i.1 < g.2.1.length := by rw [e2]; exact Nat.le_of_ble_eq_true h2
    exact hw.2 i.1 hlt (by simpa using h3)
  · have hge : g.2.2.length ≤ i.1 := by rw [e3]; exact Nat.le_of_ble_eq_true h2
    rw [hget_ge hge, hget_ge (Nat.le_trans hw.1 hge)]

def chkS (τ : SFr) (o : AOper) : List Nat :=
  match o.op with
  | .load _ x => (match opdS τ x with | .s (.ep _) => [] | _ => o.chk)
  | _ => o.chk
def loadsS (τ : SFr) : AOp → Nat
  | .load _ x => (match opdS τ x with | .s (.one (.ptr b _)) => b | .s (.lp b _ _ _) => b | _ => 0)
  | _ => 0
def bndL (n : Nat) : L → Bool
  | .v x => valBnd n x
  | .sl _ _ => true
  | .own b _ _ => Nat.blt b n
  | .ptr b _ => Nat.blt b n
  | .top => false
theorem bndL_ok {n : Nat} {x : L} (h : bndL n x = true) : valBnd n x.enc = true := by
  cases x with
  | own b m nl =>
    simp only [L.enc]
    cases cond nl (Nat.beq m 0) false with
    | true => rfl
    | false => exact h
  | top => cases h
  | _ => first | exact h | rfl
def fineS (chk : List Nat) (H : SH) (b : Nat) (A : Prop) : Prop :=
  match chk with
  | [] => A
  | _ :: _ => (match H[b]? with
    | some (.cells cs _) => cond (cs.all (bndL H.length)) A False
    | some (.lst _ l nl _) => cond nl (need (0 < l.length) A) A
    | _ => False)
theorem fineS_ok {chk : List Nat} {H : SH} {b : Nat} {A : Prop} (h : fineS chk H b A) : fineL chk (encH H) b = true ∧ A := by
  unfold fineS at h
  split at h
  · exact ⟨rfl, h⟩
  · rename_i c cr
    unfold fineL
    split at h
    · rename_i cs e hb
      rw [Bool.cond_eq_ite] at h
      split at h
      · rename_i hc
        refine ⟨?_, h⟩
        rw [encH_at hb]
        simp only [Ob.enc, List.isEmpty_cons, Bool.false_or]
        rw [List.all_eq_true] at hc ⊢
        intro v hv
        simp only [encs, List.mem_map] at hv
        obtain ⟨x, hx, rfl⟩ := hv
        rw [encH_length]
        exact bndL_ok (hc x hx)
      · cases h
    · rename_i t l nl e hb
      have key : ∀ o, (Ob.lst t l nl e).enc = some o → o.cells.all (valBnd (encH H).length) = true := by
        intro o ho
        have : o = ⟨cvs t l, e, true⟩ := by
          simp only [Ob.enc] at ho
          cases hc : cond nl l.isEmpty false with
          | true => rw [hc] at ho; cases ho
          | false => rw [hc] at ho; cases ho; rfl
        subst this
        rw [List.all_eq_true]
        intro v hv
        obtain ⟨x, _, hx⟩ := List.mem_flatMap.1 hv
        exact cv_valBnd _ t x v hx
      cases nl with
      | true =>
        obtain ⟨h1, h2⟩ := need_iff.1 h
        refine ⟨?_, h2⟩
        rw [encH_at hb, enc_lst (by intro e; rw [e] at h1; simp at h1)]
        exact key _ (enc_lst (by intro e; rw [e] at h1; simp at h1))
      | false =>
        refine ⟨?_, h⟩
        rw [encH_at hb]
        exact key _ rfl
    · cases h

/-- An operation with what it writes. -/
def vdoD (P : Program) (te : TE) (sg : Sg) (τ : SFr) (H : SH) (op : AOp) (K : VK) : Prop :=
  match op with
  | .call f args => vcall P sg τ H f args K
  | op => vop te τ H op K

def vdops (P : Program) (te : TE) (sg : Sg) (nm : Nat → Bool) (H0 : Nat) (K : SFr → SH → Prop) : Nat → List AOper → SFr → SH → HsS → IdS → Prop
  | _, [], τ, H, hs, ids => cond (drawnS H0 hs ids) (K τ H) False
  | j, o :: rest, τ, H, hs, ids => vguard τ o.guard
      (fun τ => fineS (chkS τ o) H (loadsS τ o.op) (vdoD P te sg τ H o.op fun v H1 ws => nmS (nmD nm o.dst) v fun v =>
        vdops P te sg nm H0 K (Nat.add j 1) rest (putS τ o.dst v) H1 (cond (isWriter o.op) ((j, ws, H.length, H1.length) :: hs) hs) (cond (chkS τ o).isEmpty ids ((loadsS τ o.op, chkS τ o) :: ids))))
      (fun τ => vdops P te sg nm H0 K (Nat.add j 1) rest (putS τ o.dst unitS) H hs ids)

theorem rep_congr {τT : Tmps} {τ τ' : Fr} (h : ∀ s, lk τ' s = lk τ s) (hr : RepT τT τ) : RepT τT τ' := fun t => (hr t).trans (h t).symm
theorem evD_congr {kk : Nat} {ops : List AOper} {τ τ' : Fr} {H : Hp} {hs : List (Nat × Hp × Hp)} {ids : IdS} {R : Fr → Hp → List (Nat × Hp × Hp) → IdS → Prop} (h : ∀ s, lk τ' s = lk τ s) (he : EvD P kk ops τ' H hs ids R) : EvD P kk ops τ H hs ids R := by
  obtain ⟨cfs, h1, τ1, H1, hs1, ids1, h2, h3⟩ := he
  exact ⟨cfs, h1, τ1, H1, hs1, ids1, h2, fun τT σ hsA hT => h3 τT σ hsA (rep_congr h hT)⟩

theorem load_ptr {te : TE} {sg : Sg} {τ : SFr} {H : SH} {op : AOp} {K : VK} (h : vdoD P te sg τ H op K) (sz : Option Nat) (x : Operand) (e : op = .load sz x) :
    (∃ b o, opdS τ x = .s (.one (.ptr b o))) ∨ (∃ cs, opdS τ x = .s (.ep cs)) ∨ ∃ b t j o, opdS τ x = .s (.lp b t j o) := by
  subst e
  have h : vload H sz (opdS τ x) K := h
  unfold vload at h
  simp only [fv_iff] at h
  split at h
  · rename_i b o hx; exact .inl ⟨b, o, hx⟩
  · rename_i cs hx; exact .inr (.inl ⟨cs, hx⟩)
  · rename_i b t j o hx; exact .inr (.inr ⟨b, t, j, o, hx⟩)
  · cases h

theorem chkS_ok {te : TE} {sg : Sg} {τ : SFr} {H : SH} {o : AOper} {K : VK} (h : vdoD P te sg τ H o.op K) : chkL (encT τ) o = chkS τ o ∧ loadsAt (opdL (encT τ)) o.op = loadsS τ o.op := by
  unfold chkL chkOf chkS
  cases ho : o.op with
  | load sz x =>
    simp only [loadsAt, loadsS, opd_enc]
    rcases load_ptr h sz x ho with ⟨b, off, hx⟩ | ⟨cs, hx⟩ | ⟨b, t, j, off, hx⟩
    · rw [hx]; exact ⟨rfl, rfl⟩
    · rw [hx]; exact ⟨rfl, rfl⟩
    · rw [hx]; exact ⟨rfl, rfl⟩
  | _ => exact ⟨rfl, rfl⟩

theorem vdops_ok {te : TE} {sg : Sg} {nm : Nat → Bool} (hE : SgOK P sg) {H0 : Nat} {B : Hp} (hB : B.length = H0) {K : SFr → SH → Prop} (hK : ∀ τ H, K τ H → Go P nt k Q l (encT τ) (encH H)) : ∀ {ops : List AOper} {j : Nat} {τ : SFr} {H : SH} {hsS : HsS} {ids : IdS} {hs : List (Nat × Hp × Hp)}, vdops P te sg nm H0 K j ops τ H hsS ids → RelW hs hsS →
    EvD P j ops (encT τ) (encH H) hs ids (fun τ' H' hs ids => DrawnL B hs ids ∧ Go P nt k Q l τ' H')
  | [], j, τ, H, hsS, ids, hs, h, hr => by
    simp only [vdops] at h
    rw [Bool.cond_eq_ite] at h
    split at h
    · rename_i hd
      exact d_nil ⟨drawnS_ok hr (by rw [hB]; exact hd), hK _ _ h⟩
    · cases h
  | o :: rest, j, τ, H, hsS, ids, hs, h, hr => by
    simp only [vdops] at h
    obtain ⟨τ', h1, h2, h3⟩ := vguard_ok h
    refine evD_congr h1 ?_
    rcases h3 with ⟨h4, h5⟩ | ⟨h4, h5⟩
    · obtain ⟨hf, h6⟩ := fineS_ok h5
      obtain ⟨hc1, hc2⟩ := chkS_ok h6
      have hw : wantedL (encT τ') o.guard = some true := by rw [wanted_congr h1]; exact h4
      have hrel : ∀ (ws : List Nat) (H' : SH), WS ws (encH H) (encH H') → RelW (cond (isWriter o.op) ((j, encH H, encH H') :: hs) hs) (cond (isWriter o.op) ((j, ws, H.length, H'.length) :: hsS) hsS) := by
        intro ws H' hws
        cases isWriter o.op with
        | true => exact ⟨rfl, encH_length _, encH_length _, hws, hr⟩
        | false => exact hr
      have hgen : (∃ sv H' ws, vdops P te sg nm H0 K (Nat.add j 1) rest (putS τ' o.dst sv) H' (cond (isWriter o.op) ((j, ws, H.length, H'.length) :: hsS) hsS) (cond (chkS τ' o).isEmpty ids ((loadsS τ' o.op, chkS τ' o) :: ids)) ∧ WS ws (encH H) (encH H') ∧
          ∃ cf, SndF P cf ∧ ∀ σ, Rp σ (encH H) → ∃ σ', op2 cf (opdL (encT τ')) σ o.op = some (sv.enc, σ') ∧ Rp σ' (encH H')) →
          EvD P j (o :: rest) (encT τ') (encH H) hs ids (fun τ' H' hs ids => DrawnL B hs ids ∧ Go P nt k Q l τ' H') := by
        rintro ⟨sv, H', ws, hv, hws, cf, hcf, ho⟩
        have ih := vdops_ok hE hB hK hv (hrel ws H' hws)
        rw [putS_enc, ← hc1, ← hc2] at ih
        rw [← hc1, ← hc2] at hf
        exact d_step (dst := o.dst) (op := o.op) (g := o.guard) (chk := o.chk) hw hcf ho hf ih
      refine hgen ?_
      unfold vdoD at h6
      split at h6
      · rename_i f args hop
        obtain ⟨sv, H', ws, g, as, hk, hc, hs', hws⟩ := vcall_ok hE h6
        refine ⟨sv, H', ws, nmS_ok hk, hws, _, oneH_sound hs', fun σ hσ => ?_⟩
        rw [hop]
        exact callee_oneH hc hs' hσ
      · rename_i op hop
        obtain ⟨sv, H', ws, hk, ho, hws⟩ := vop_ok h6
        refine ⟨sv, H', ws, nmS_ok hk, hws, _, sndF_none, fun σ hσ => ?_⟩
        obtain ⟨σ', a1, a2⟩ := opS_sound hσ ho
        refine ⟨σ', ?_, a2⟩
        rw [op2_op1]
        · exact a1
        · generalize o.op = op at ho hop
          cases op <;> first | rfl | (simp [opS] at ho)
    · have ih := vdops_ok hE hB hK h5 hr
      rw [putS_enc] at ih
      exact d_miss (dst := o.dst) (op := o.op) (g := o.guard) (chk := o.chk) (by rw [wanted_congr h1]; exact h4) ih

end Go.Bx

namespace Go.Bx
set_option maxRecDepth 4000
variable {P : Program} {nt k : Nat} {Q : Out} {l : List Item}

structure Sy where
  τ : SFr
  H : SH

/-! ### Which block is which -/

def pairL : L → L → List (Nat × Nat)
  | .own b2 _ _, .own b _ _ => [(b2, b)]
  | .ptr b2 _, .ptr b _ => [(b2, b)]
  | _, _ => []
def pairLs : List L → List L → List (Nat × Nat)
  | x2 :: r2, x :: r => pairL x2 x ++ pairLs r2 r
  | _, _ => []
def pairS0 : S0 → S0 → List (Nat × Nat)
  | .one x2, .one x => pairL x2 x
  | .agg x2, .agg x => pairLs x2 x
  | .lp b2 _ _ _, .lp b _ _ _ => [(b2, b)]
  | _, _ => []
def pairS0s : List S0 → List S0 → List (Nat × Nat)
  | x2 :: r2, x :: r => pairS0 x2 x ++ pairS0s r2 r
  | _, _ => []
def pairSV : SV → SV → List (Nat × Nat)
  | .s x2, .s x => pairS0 x2 x
  | .clo _ a2 b2, .clo _ a b => pairS0s a2 a ++ pairS0s b2 b
  | _, _ => []
def pairT (τ : SFr) : SFr → List (Nat × Nat)
  | [] => []
  | (t, v2) :: r => pairSV v2 (lkS τ t) ++ pairT τ r
def pairH (H2 H : SH) : List (Nat × Nat) → List (Nat × Nat)
  | [] => []
  | (b2, b) :: r => (match H2[b2]?, H[b]? with | some (.cells c2 _), some (.cells c _) => pairLs c2 c | _, _ => []) ++ pairH H2 H r
def findP (i : Nat) : List (Nat × Nat) → Option Nat
  | [] => none
  | (a, b) :: r => cond (Nat.beq a i) (some b) (findP i r)
def nodupB : List Nat → Bool
  | [] => true
  | x :: r => !(r.contains x) && nodupB r
theorem nodupB_ok : ∀ {l : List Nat}, nodupB l = true → l.Nodup
  | [], _ => List.nodup_nil
  | x :: r, h => by
    simp only [nodupB, Bool.and_eq_true, Bool.not_eq_true', List.contains_eq_mem, decide_eq_false_iff_not] at h
    exact List.nodup_cons.2 ⟨h.1, nodupB_ok h.2⟩
def idB (k : Nat) (ι : List Nat) : Nat → Bool
  | 0 => true
  | i + 1 => idB k ι i && (match ι[i]? with | some b => Nat.beq b i | none => false)
theorem idB_ok {k : Nat} {ι : List Nat} : ∀ {n : Nat}, idB k ι n = true → ∀ i, i < n → ι[i]? = some i
  | n + 1, h, i, hi => by
    simp only [idB, Bool.and_eq_true] at h
    by_cases hn : i = n
    · subst hn
      have h2 := h.2
      split at h2
      · rename_i b hb; rw [hb, Nat.eq_of_beq_eq_true h2]
      · cases h2
    · exact idB_ok h.1 i (by omega)

/-! ### Equalities of leaves -/

def pvB : Value → Bool
  | .bool _ | .int _ _ | .string _ | .pointer none | .slice none 0 0 | .nilFunc | .nilIface => true
  | _ => false
theorem pvB_ok {v : Value} (h : pvB v = true) : PV v := by
  unfold pvB at h
  split at h
  · exact pv_bool _
  · exact pv_int _ _
  · exact pv_string _
  · exact pv_ptrN
  · exact pv_slcN
  · exact pv_nilFunc
  · exact pv_nilIface
  · cases h

def veq (a2 a : Value) (A : Prop) : Prop :=
  match a2, a with
  | .int k m, .int k' n => cond (kbeq k k') (n = m ∧ A) False
  | .bool m, .bool n => n = m ∧ A
  | .string m, .string n => n = m ∧ A
  | a2, a => a = a2 ∧ A
theorem veq_ok {a2 a : Value} {A : Prop} (h : veq a2 a A) : a = a2 ∧ A := by
  unfold veq at h
  split at h
  · rename_i k m k' n
    cases hk : kbeq k k' with
    | false => rw [hk] at h; cases h
    | true =>
      rw [hk] at h
      have := kbeq_eq hk
      subst this
      exact ⟨by rw [h.1], h.2⟩
  · exact ⟨by rw [h.1], h.2⟩
  · exact ⟨by rw [h.1], h.2⟩
  · exact h

def leq (t2 : Ty) (l2 : List (den t2)) (t : Ty) (l : List (den t)) (A : Prop) : Prop :=
  if h : t.beq t2 = true then (Ty.eq_of_beq h ▸ l) = l2 ∧ A else False
theorem leq_ok {t2 : Ty} {l2 : List (den t2)} {t : Ty} {l : List (den t)} {A : Prop} (h : leq t2 l2 t l A) : L.sl t l = L.sl t2 l2 ∧ A := by
  unfold leq at h
  split at h
  · rename_i hb
    have := Ty.eq_of_beq hb
    subst this
    exact ⟨by rw [← h.1], h.2⟩
  · cases h

def atB (ι : List Nat) (b2 b : Nat) : Bool := match ι[b2]? with | some x => Nat.beq x b | none => false
theorem atB_ok {ι : List Nat} {b2 b : Nat} (h : atB ι b2 b = true) : ι[b2]? = some b := by
  unfold atB at h
  split at h
  · rename_i x hx; rw [hx, Nat.eq_of_beq_eq_true h]
  · cases h

/-- A cell is the other one, renamed. -/
def weakC (ι : List Nat) (x2 x : L) (A : Prop) : Prop :=
  match x2, x with
  | .v a2, .v a => cond (pvB a2) (veq a2 a A) False
  | .sl t2 l2, .sl t l => leq t2 l2 t l A
  | .own b2 n2 nl2, .own b n nl => cond (atB ι b2 b && (nl == nl2)) (n = n2 ∧ A) False
  | .ptr b2 o2, .ptr b o => cond (atB ι b2 b && Nat.beq o o2) A False
  | _, _ => False
theorem own_ren {ι : List Nat} {b2 b n : Nat} {nl : Bool} (h : ι[b2]? = some b) : RenV ι (L.own b2 n nl).enc (L.own b n nl).enc := by
  simp only [L.enc]
  cases cond nl (Nat.beq n 0) false with
  | true => exact .pv pv_slcN
  | false => exact .slc (a := ⟨b2, 0, none⟩) h
theorem weakC_ok {ι : List Nat} {x2 x : L} {A : Prop} (h : weakC ι x2 x A) : RenV ι x2.enc x.enc ∧ A := by
  unfold weakC at h
  split at h
  · rename_i a2 a
    rw [Bool.cond_eq_ite] at h
    split at h
    · rename_i hp
      obtain ⟨rfl, h2⟩ := veq_ok h
      exact ⟨.pv (pvB_ok hp), h2⟩
    · cases h
  · obtain ⟨h1, h2⟩ := leq_ok h
    rw [h1]
    exact ⟨.pv (pv_bvS _ _ _), h2⟩
  · rename_i b2 n2 nl2 b n nl
    rw [Bool.cond_eq_ite] at h
    split at h
    · rename_i hc
      simp only [Bool.and_eq_true, beq_iff_eq] at hc
      obtain ⟨h1, rfl⟩ := hc
      obtain ⟨rfl, h2⟩ := h
      exact ⟨own_ren (atB_ok h1), h2⟩
    · cases h
  · rename_i b2 o2 b o
    rw [Bool.cond_eq_ite] at h
    split at h
    · rename_i hc
      simp only [Bool.and_eq_true] at hc
      have ho : o = o2 := Nat.eq_of_beq_eq_true hc.2
      subst ho
      exact ⟨.ptr (a := ⟨b2, o, none⟩) (atB_ok hc.1), h⟩
    · cases h
  · cases h

def weakCs (ι : List Nat) (A : Prop) : List L → List L → Prop
  | [], [] => A
  | x2 :: r2, x :: r => weakC ι x2 x (weakCs ι A r2 r)
  | _, _ => False
theorem weakCs_ok {ι : List Nat} {A : Prop} : ∀ {c2 c : List L}, weakCs ι A c2 c → RenVs ι (encs c2) (encs c) ∧ A
  | [], [], h => ⟨.nil, h⟩
  | x2 :: r2, x :: r, h => by
    obtain ⟨h1, h2⟩ := weakC_ok h
    obtain ⟨h3, h4⟩ := weakCs_ok h2
    exact ⟨.cons h1 h3, h4⟩
  | [], _ :: _, h => h.elim
  | _ :: _, [], h => h.elim

/-- What a temporary holds is enough for the other one. -/
def weakL (ι : List Nat) (x2 x : L) (A : Prop) : Prop :=
  match x2, x with
  | .top, _ => A
  | .sl _ l2, .v (.slice none 0 0) => [] = l2 ∧ A
  | .own _ n2 true, .v (.slice none 0 0) => 0 = n2 ∧ A
  | x2, x => weakC ι x2 x A
def Enough (ι : List Nat) (v2 v : Value) : Prop := v2 = top ∨ ∃ u, VLe v u ∧ RenV ι v2 u
theorem weakL_ok {ι : List Nat} {x2 x : L} {A : Prop} (h : weakL ι x2 x A) : Enough ι x2.enc x.enc ∧ A := by
  unfold weakL at h
  split at h
  · exact ⟨.inl rfl, h⟩
  · obtain ⟨rfl, h2⟩ := h
    exact ⟨.inr ⟨bvS 0 [], VLe.nil, .pv (pv_bvS _ _ _)⟩, h2⟩
  · obtain ⟨rfl, h2⟩ := h
    exact ⟨.inr ⟨_, .refl _, .pv pv_slcN⟩, h2⟩
  · obtain ⟨h1, h2⟩ := weakC_ok h
    exact ⟨.inr ⟨_, .refl _, h1⟩, h2⟩

def eqC (x2 x : L) (A : Prop) : Prop :=
  match x2, x with
  | .v a2, .v a => veq a2 a A
  | .sl t2 l2, .sl t l => leq t2 l2 t l A
  | _, _ => False
theorem eqC_ok {x2 x : L} {A : Prop} (h : eqC x2 x A) : x = x2 ∧ A := by
  unfold eqC at h
  split at h
  · obtain ⟨rfl, h2⟩ := veq_ok h; exact ⟨rfl, h2⟩
  · exact leq_ok h
  · cases h
def eqCs (A : Prop) : List L → List L → Prop
  | [], [] => A
  | x2 :: r2, x :: r => eqC x2 x (eqCs A r2 r)
  | _, _ => False
theorem eqCs_ok {A : Prop} : ∀ {c2 c : List L}, eqCs A c2 c → c = c2 ∧ A
  | [], [], h => ⟨rfl, h⟩
  | x2 :: r2, x :: r, h => by
    obtain ⟨rfl, h2⟩ := eqC_ok h
    obtain ⟨rfl, h4⟩ := eqCs_ok h2
    exact ⟨rfl, h4⟩
  | [], _ :: _, h => h.elim
  | _ :: _, [], h => h.elim

def weakS0 (ι : List Nat) (x2 x : S0) (A : Prop) : Prop :=
  match x2, x with
  | .one x2, .one x => weakC ι x2 x A
  | .agg c2, .agg c => weakCs ι A c2 c
  | .ep c2, .ep c => eqCs A c2 c
  | .lp b2 t2 j2 o2, .lp b t j o => cond (atB ι b2 b && (t.beq t2 && Nat.beq o o2)) (j = j2 ∧ A) False
  | _, _ => False
theorem weakS0_ok {ι : List Nat} {x2 x : S0} {A : Prop} (h : weakS0 ι x2 x A) : RenV ι x2.enc x.enc ∧ A := by
  unfold weakS0 at h
  split at h
  · exact weakC_ok h
  · obtain ⟨h1, h2⟩ := weakCs_ok h
    exact ⟨.agg (by simpa using h1), h2⟩
  · obtain ⟨rfl, h2⟩ := eqCs_ok h
    exact ⟨.pv (pv_bvP _ _ _ _), h2⟩
  · rename_i b2 t2 j2 o2 b t j o
    rw [Bool.cond_eq_ite] at h
    split at h
    · rename_i hc
      simp only [Bool.and_eq_true] at hc
      have ho : o = o2 := Nat.eq_of_beq_eq_true hc.2.2
      have ht := Ty.eq_of_beq hc.2.1
      obtain ⟨rfl, h2⟩ := h
      subst ho ht
      exact ⟨.ptr (a := ⟨b2, j * szT t + o, none⟩) (atB_ok hc.1), h2⟩
    · cases h
  · cases h
def weakS0s (ι : List Nat) (A : Prop) : List S0 → List S0 → Prop
  | [], [] => A
  | x2 :: r2, x :: r => weakS0 ι x2 x (weakS0s ι A r2 r)
  | _, _ => False
theorem weakS0s_ok {ι : List Nat} {A : Prop} : ∀ {c2 c : List S0}, weakS0s ι A c2 c → RenVs ι (c2.map S0.enc) (c.map S0.enc) ∧ A
  | [], [], h => ⟨.nil, h⟩
  | x2 :: r2, x :: r, h => by
    obtain ⟨h1, h2⟩ := weakS0_ok h
    obtain ⟨h3, h4⟩ := weakS0s_ok h2
    exact ⟨.cons h1 h3, h4⟩
  | [], _ :: _, h => h.elim
  | _ :: _, [], h => h.elim

def weakSV (ι : List Nat) (x2 x : SV) (A : Prop) : Prop :=
  match x2, x with
  | .s (.one .top), _ => A
  | .s (.one x2), .s (.one x) => weakL ι x2 x A
  | .s x2, .s x => weakS0 ι x2 x A
  | .clo f2 a2 b2, .clo f a b => cond (Nat.beq f f2) (weakS0s ι (weakS0s ι A b2 b) a2 a) False
  | _, _ => False
theorem weakSV_ok {ι : List Nat} {x2 x : SV} {A : Prop} (h : weakSV ι x2 x A) : Enough ι x2.enc x.enc ∧ A := by
  unfold weakSV at h
  split at h
  · exact ⟨.inl rfl, h⟩
  · exact weakL_ok h
  · obtain ⟨h1, h2⟩ := weakS0_ok h
    exact ⟨.inr ⟨_, .refl _, h1⟩, h2⟩
  · rename_i f2 a2 b2 f a b
    rw [Bool.cond_eq_ite] at h
    split at h
    · rename_i hf
      have := Nat.eq_of_beq_eq_true hf
      subst this
      obtain ⟨h1, h2⟩ := weakS0s_ok h
      obtain ⟨h3, h4⟩ := weakS0s_ok h2
      exact ⟨.inr ⟨_, .refl _, .func _ (by simpa using h1) (by simpa using h3)⟩, h4⟩
    · cases h
  · cases h

def weakT (ι : List Nat) (τ : SFr) (A : Prop) : SFr → Prop
  | [] => A
  | (t, v2) :: r => weakSV ι v2 (lkS τ t) (weakT ι τ A r)
theorem weakT_ok {ι : List Nat} {τ : SFr} {A : Prop} : ∀ {τ2 : SFr}, weakT ι τ A τ2 → (∀ t, Enough ι (lkS τ2 t).enc (lkS τ t).enc) ∧ A
  | [], h => ⟨fun _ => .inl rfl, h⟩
  | (s, v2) :: r, h => by
    obtain ⟨h1, h2⟩ := weakSV_ok h
    obtain ⟨h3, h4⟩ := weakT_ok h2
    refine ⟨fun t => ?_, h4⟩
    simp only [lkS]
    by_cases ht : t = s
    · subst ht; rw [Nat.beq_refl]; exact h1
    · rw [beqF ht]; exact h3 t

def weakO (ι : List Nat) (o2 : Ob) (o : Option Ob) (A : Prop) : Prop :=
  match o2, o with
  | .dead, none => A
  | .dead, some .dead => A
  | .cells c2 e2, some (.cells c e) => cond (Nat.beq e e2) (weakCs ι A c2 c) False
  | .lst t2 l2 nl2 e2, some (.lst t l nl e) => cond (Nat.beq e e2 && (nl == nl2)) (leq t2 l2 t l A) False
  | .lst _ l2 true _, none => [] = l2 ∧ A
  | _, _ => False
def encO : Option Ob → Option AObj
  | some o => o.enc
  | none => none
theorem renvs_refl {ι : List Nat} {l : List Value} (h : PVs l) : RenVs ι l l := renvs_pv h
theorem weakO_ok {ι : List Nat} {o2 : Ob} {o : Option Ob} {A : Prop} (h : weakO ι o2 o A) : RenO ι o2.enc (encO o) ∧ A := by
  unfold weakO at h
  split at h
  · exact ⟨trivial, h⟩
  · exact ⟨trivial, h⟩
  · rename_i c2 e2 c e
    rw [Bool.cond_eq_ite] at h
    split at h
    · rename_i he
      obtain ⟨h1, h2⟩ := weakCs_ok h
      exact ⟨⟨Nat.eq_of_beq_eq_true he, rfl, h1⟩, h2⟩
    · cases h
  · rename_i t2 l2 nl2 e2 t l nl e
    rw [Bool.cond_eq_ite] at h
    split at h
    · rename_i hc
      simp only [Bool.and_eq_true, beq_iff_eq] at hc
      obtain ⟨he, rfl⟩ := hc
      have := Nat.eq_of_beq_eq_true he
      subst this
      obtain ⟨h1, h2⟩ := leq_ok h
      cases h1
      refine ⟨?_, h2⟩
      show RenO ι (Ob.lst t2 l2 nl e).enc (Ob.lst t2 l2 nl e).enc
      simp only [Ob.enc]
      cases cond nl l2.isEmpty false with
      | true => exact trivial
      | false => exact ⟨rfl, rfl, renvs_pv (cvs_pvs t2 l2)⟩
    · cases h
  · obtain ⟨rfl, h2⟩ := h
    exact ⟨trivial, h2⟩
  · cases h

def weakH (ι : List Nat) (H : SH) (A : Prop) : Nat → SH → Prop
  | _, [] => A
  | i, o2 :: r => weakO ι o2 (match ι[i]? with | some b => H[b]? | none => none) (weakH ι H A (Nat.add i 1) r)
theorem weakH_ok {ι : List Nat} {H : SH} {A : Prop} : ∀ {H2 : SH} {i : Nat}, weakH ι H A i H2 → (∀ j b, ι[i + j]? = some b → j < H2.length → RenO ι (hget (encH H2) j) (hget (encH H) b)) ∧ A
  | [], i, h => ⟨fun j b _ hj => by simp at hj, h⟩
  | o2 :: r, i, h => by
    obtain ⟨h1, h2⟩ := weakO_ok h
    obtain ⟨h3, h4⟩ := weakH_ok h2
    refine ⟨fun j b hb hj => ?_, h4⟩
    cases j with
    | zero =>
      rw [Nat.add_zero] at hb
      rw [hb] at h1
      rw [encH_get, encH_get]
      exact h1
    | succ j =>
      have := h3 j b (by rw [← hb]; congr 1; show i + 1 + j = i + (j + 1); omega) (by simpa using hj)
      rw [encH_get] at this ⊢
      exact this

/-- The first blocks are the same. -/
def sameH : Nat → SH → SH → Prop → Prop
  | 0, _, _, A => A
  | k + 1, .cells c2 e2 :: r2, .cells c e :: r, A => cond (Nat.beq e e2) (eqCs (sameH k r2 r A) c2 c) False
  | _, _, _, _ => False
theorem sameH_ok : ∀ {k : Nat} {H2 H : SH} {A : Prop}, sameH k H2 H A → (∀ i, i < k → hget (encH H2) i = hget (encH H) i) ∧ A
  | 0, H2, H, A, h => ⟨fun i hi => by omega, by simpa [sameH] using h⟩
  | k + 1, .cells c2 e2 :: r2, .cells c e :: r, A, h => by
    simp only [sameH] at h
    rw [Bool.cond_eq_ite] at h
    split at h
    · rename_i he
      have := Nat.eq_of_beq_eq_true he
      subst this
      obtain ⟨rfl, h2⟩ := eqCs_ok h
      obtain ⟨h3, h4⟩ := sameH_ok h2
      refine ⟨fun i hi => ?_, h4⟩
      cases i with
      | zero => rfl
      | succ i => 
        have := h3 i (by omega)
        rw [encH_get, encH_get] at this ⊢
        exact this
    · cases h
  | k + 1, [], H, A, h => by simp [sameH] at h
  | k + 1, .dead :: _, H, A, h => by simp [sameH] at h
  | k + 1, .lst .. :: _, H, A, h => by simp [sameH] at h
  | k + 1, .cells .. :: _, [], A, h => by simp [sameH] at h
  | k + 1, .cells .. :: _, .dead :: _, A, h => by simp [sameH] at h
  | k + 1, .cells .. :: _, .lst .. :: _, A, h => by simp [sameH] at h

def fps : List (Nat × Nat) → (List (Nat × Nat) → Prop) → Prop
  | [], K => K []
  | (a, b) :: r, K => fps r fun r => K ((a, b) :: r)
theorem fps_iff : ∀ {l : List (Nat × Nat)} {K : List (Nat × Nat) → Prop}, fps l K ↔ K l
  | [], K => Iff.rfl
  | (a, b) :: r, K => by simp only [fps, fps_iff]
/-- The names: any list will do, for it is checked. -/
def fmapI (k n : Nat) (ps : List (Nat × Nat)) : List Nat → SH → (List Nat → Prop) → Prop
  | _, [], K => K []
  | i :: is, _ :: r, K => cond (Nat.blt i k) (fmapI k n ps is r fun l => K (i :: l)) (match findP i ps with
    | some b => fmapI k n ps is r fun l => K (b :: l)
    | none => cond (Nat.blt i n) (fmapI k n ps is r fun l => K (i :: l)) (fmapI k n ps is r fun l => K (Nat.add n i :: l)))
  | [], _ :: _, _ => False
theorem fmapI_ok {k n : Nat} {ps : List (Nat × Nat)} : ∀ {is : List Nat} {H : SH} {K : List Nat → Prop}, fmapI k n ps is H K → ∃ l, K l
  | [], [], K, h => ⟨[], h⟩
  | _ :: _, [], K, h => ⟨[], h⟩
  | i :: is, _ :: r, K, h => by
    simp only [fmapI] at h
    rw [Bool.cond_eq_ite] at h
    split at h
    · obtain ⟨l, hl⟩ := fmapI_ok h; exact ⟨_, hl⟩
    · split at h
      · obtain ⟨l, hl⟩ := fmapI_ok h; exact ⟨_, hl⟩
      · rw [Bool.cond_eq_ite] at h
        split at h
        · obtain ⟨l, hl⟩ := fmapI_ok h; exact ⟨_, hl⟩
        · obtain ⟨l, hl⟩ := fmapI_ok h; exact ⟨_, hl⟩
  | [], _ :: _, K, h => h.elim

def weak (k : Nat) (τ : SFr) (H : SH) (s2 : Sy) : Prop :=
  fst2 s2.τ s2.H fun τ2 H2 => fps (pairT τ τ2) fun p => fps (p ++ pairH H2 H p) fun ps => flen lits H fun n => fmapI k n ps lits H2 fun ι =>
  cond (nodupB ι && (idB k ι k && (Nat.ble k H2.length && Nat.beq ι.length H2.length)))
    (weakT ι τ (weakH ι H (sameH k H2 H True) 0 H2) τ2) False

theorem weak_ok {k : Nat} {τ : SFr} {H : SH} {s2 : Sy} (h : weak k τ H s2) : Wk P k (encT τ) (encH H) (encT s2.τ) (encH s2.H) := by
  unfold weak at h
  simp only [fst2_iff, fps_iff] at h
  obtain ⟨ι, h⟩ := fmapI_ok (flen_ok h)
  rw [Bool.cond_eq_ite] at h
  split at h
  · rename_i hc
    simp only [Bool.and_eq_true] at hc
    obtain ⟨h1, h2, h3, h4⟩ := hc
    obtain ⟨a1, h5⟩ := weakT_ok h
    obtain ⟨a2, h6⟩ := weakH_ok h5
    obtain ⟨a3, _⟩ := sameH_ok h6
    have hlen : ι.length = s2.H.length := Nat.eq_of_beq_eq_true h4
    have hH : ∀ i b, ι[i]? = some b → RenO ι (hget (encH s2.H) i) (hget (encH H) b) := fun i b hb => by
      have hi : i < s2.H.length := by rw [← hlen]; exact (List.getElem?_eq_some_iff.1 hb).1
      exact a2 i b (by rw [Nat.zero_add]; exact hb) hi
    -- first the values, then the names
    have hex : ∃ u : Nat → Value, ∀ t, VLe (lk (encT τ) t) (u t) ∧ (RenV ι (lk (encT s2.τ) t) (u t) ∨ lk (encT s2.τ) t = top) := by
      refine ⟨fun t => open Classical in if h : ∃ u, VLe (lkS τ t).enc u ∧ RenV ι (lkS s2.τ t).enc u then Classical.choose h else (lkS τ t).enc, fun t => ?_⟩
      rw [lk_enc, lk_enc]
      rcases a1 t with h | h
      · constructor
        · dsimp only
          split
          · rename_i hh; exact (Classical.choose_spec hh).1
          · exact .refl _
        · exact .inr h
      · dsimp only
        rw [dif_pos h]
        exact ⟨(Classical.choose_spec h).1, .inl (Classical.choose_spec h).2⟩
    obtain ⟨u, hu⟩ := hex
    exact wk_ren2 ι u (by rw [encH_length]; exact hlen) (by rw [encH_length]; exact Nat.le_of_ble_eq_true h3) (idB_ok h2) (nodupB_ok h1) a3 hH hu
  · cases h

end Go.Bx

namespace Go.Bx
set_option maxRecDepth 4000
variable {P : Program} {nt k : Nat} {Q : Out} {l : List Item}

/-- A place that differs from turn to turn: a temporary, a cell behind a pointer, the elements of a list of one's own, a list that grows out of nil. -/
inductive Loc where
  | tmp (t : Nat)
  | cell (t off : Nat)
  | list (t : Nat)
  | grow (t : Nat) (el : Ty) (e : TypeId)
/-- What is remembered at the head of a loop, and what differs. -/
structure LA where
  keep : List Nat
  locs : List Loc
def tyL : L → Option Ty
  | .v (.int k _) => some (.int k)
  | .v (.bool _) => some .bool
  | .v (.string _) => some .str
  | .sl t _ => some (.sl t)
  | _ => none
def tyLs : List L → Option Ty
  | [] => some .unit
  | [x] => tyL x
  | x :: r => match tyL x, tyLs r with | some a, some b => some (.pair a b) | _, _ => none
def locTy (τ : SFr) (H : SH) : Loc → Option Ty
  | .tmp t => (match lkS τ t with
    | .s (.one x) => tyL x
    | .s (.agg cs) => tyLs cs
    | _ => none)
  | .cell t off => (match lkS τ t with
    | .s (.one (.ptr b o)) => (match H[b]? with
      | some (.cells cs _) => (match cs[Nat.add o off]? with | some x => tyL x | none => none)
      | _ => none)
    | _ => none)
  | .list t => (match lkS τ t with
    | .s (.one (.own b _ _)) => (match H[b]? with | some (.lst t _ _ _) => some (.sl t) | _ => none)
    | _ => none)
  | .grow _ el _ => some (.sl el)
def locsTy (τ : SFr) (H : SH) : List Loc → Option (List Ty)
  | [] => some []
  | a :: r => match locTy τ H a, locsTy τ H r with | some t, some ts => some (t :: ts) | _, _ => none
def app (s : Sy) : Loc → (t : Ty) → den t → Sy
  | .tmp n, t, x => ⟨(n, .s (s0 t x)) :: s.τ, s.H⟩
  | .cell n off, t, x => (match lkS s.τ n with
    | .s (.one (.ptr b o)) => (match s.H[b]? with
      | some (.cells cs e) => ⟨s.τ, s.H.set b (.cells (setAtL cs (Nat.add o off) (cl t x)) e)⟩
      | _ => s)
    | _ => s)
  | .list n, .sl t, x => (match lkS s.τ n with
    | .s (.one (.own b _ nl)) => (match s.H[b]? with
      | some (.lst _ _ _ e) => ⟨(n, .s (.one (.own b x.length nl))) :: s.τ.filter (fun p => !(Nat.beq p.1 n)), s.H.set b (.lst t x nl e)⟩
      | _ => s)
    | _ => s)
  | .grow n _ e, .sl t, x => ⟨(n, .s (.one (.own s.H.length x.length true))) :: s.τ, s.H ++ [.lst t x true e]⟩
  | _, _, _ => s
def apps (s : Sy) : List Loc → (ts : List Ty) → denR ts → Sy
  | [a], [t], x => app s a t x
  | a :: r, t :: u :: ts, x => apps (app s a t x.1) r (u :: ts) x.2
  | _, _, _ => s
def keepT (τ : SFr) : List Nat → SFr
  | [] => []
  | t :: r => (t, lkS τ t) :: keepT τ r
def fvs (s : Sy) (K : SFr → SH → Prop) : Prop := K s.τ s.H
def shape (la : LA) (τ : SFr) (H : SH) (ts : List Ty) (x : denR ts) : Sy := apps ⟨keepT τ la.keep, H⟩ la.locs ts x

abbrev KC := AExit → SFr → SH → Prop

def vun (f : SFr → SH → KC → Prop) (K : KC) : Nat → SFr → SH → Prop
  | 0, _, _ => False
  | n + 1, τ, H => f τ H fun e τ' H' => match e with
    | .normal => vun f K n τ' H'
    | e => K e τ' H'

def vloop (k un : Nat) (A : Option LA) (f : SFr → SH → KC → Prop) (τ : SFr) (H : SH) (K : KC) : Prop :=
  match A with
  | some la => (match locsTy τ H la.locs with
    | some ts => ∃ (I : denR ts → Prop) (μ : denR ts → Nat), (∃ x, weak k τ H (shape la τ H ts x) ∧ I x) ∧ ∀ x, I x → fst2 (shape la τ H ts x).τ (shape la τ H ts x).H fun τ1 H1 => f τ1 H1 fun e τ' H' => match e with
      | .normal => ∃ y, weak k τ' H' (shape la τ H ts y) ∧ I y ∧ μ y < μ x
      | e => K e τ' H'
    | none => False)
  | none => vun f K un τ H
def subC (c : Operand) (t : Bool) (τ : SFr) : SFr := match c with | .tmp n => (n, sv (.bool t)) :: τ | _ => τ
def vcond (k : Nat) (A : Option LA) (c : Operand) (t : Bool) (fa fb : SFr → SH → KC → Prop) (τ : SFr) (H : SH) (K : KC) : Prop :=
  match A with
  | none => cnd t (fa (subC c true τ) H K) (fb (subC c false τ) H K)
  | some la => (match locsTy τ H la.locs with
    | some ts => ∃ J : denR ts → Prop, cnd t (fa (subC c true τ) H fun e τ' H' => match e with
        | .normal => ∃ x, weak k τ' H' (shape la τ H ts x) ∧ J x
        | e => K e τ' H') (fb (subC c false τ) H fun e τ' H' => match e with
        | .normal => ∃ x, weak k τ' H' (shape la τ H ts x) ∧ J x
        | e => K e τ' H') ∧ ∀ x, J x → fst2 (shape la τ H ts x).τ (shape la τ H ts x).H fun τ1 H1 => K .normal τ1 H1
    | none => False)
def annC (ann : Nat → Option LA) : Operand → Option LA
  | .tmp n => ann (Nat.add 1000 n)
  | _ => none

/-- The calls of a region that are handed slices of their own: these are frozen before. -/
def ownOps (τ : SFr) : List AOper → List (Nat × Nat) → List Nat
  | [], _ => []
  | o :: r, m =>
    let src := fun (x : Operand) => match x with | .tmp t => (match m.find? (fun p => Nat.beq p.1 t) with | some p => ownS (lkS τ p.2) | none => ownS (lkS τ t)) | _ => []
    match o.op, o.dst with
    | .mv (.tmp t), some d => ownOps τ r ((d, (match m.find? (fun p => Nat.beq p.1 t) with | some p => p.2 | none => t)) :: m)
    | .call _ args, _ => args.flatMap src ++ ownOps τ r m
    | _, _ => ownOps τ r m

def nmA (ann : Nat → Option LA) : Nat → Bool := fun d => (ann (Nat.add 2000 d)).isSome

def vc (P : Program) (te : TE) (sg : Sg) (k un : Nat) (ann : Nat → Option LA) : Nat → ACode → SFr → SH → KC → Prop
  | _, .skip, τ, H, K => K .normal τ H
  | _, .region ops, τ, H, K => vops P te sg (nmA ann) k ops τ H (K .normal)
  | _, .dregion ops, τ, H, K => vfz k (ownOps τ ops []) τ H fun τ H => vdops P te sg (nmA ann) H.length (K .normal) 0 ops τ H [] []
  | lb, .seq a b, τ, H, K => vc P te sg k un ann lb a τ H fun e τ' H' => match e with
    | .normal => vc P te sg k un ann lb b τ' H' K
    | e => K e τ' H'
  | lb, .cond c a b, τ, H, K => match opdS τ c with
    | .s (.one (.v (.bool t))) => vcond k (annC ann c) c t (fun τ H K => vc P te sg k un ann lb a τ H K) (fun τ H K => vc P te sg k un ann lb b τ H K) τ H K
    | _ => False
  | _, .block id c, τ, H, K => vc P te sg k un ann id c τ H fun e τ' H' => match e with
    | .exit j => cond (Nat.beq j id) (K .normal τ' H') (K (.exit j) τ' H')
    | e => K e τ' H'
  | lb, .loop c, τ, H, K => vloop k un (ann lb) (fun τ H K => vc P te sg k un ann lb c τ H K) τ H K
  | _, .exit id, τ, H, K => K (.exit id) τ H
  | _, .ret, τ, H, K => K .ret τ H
  | _, _, _, _, _ => False

theorem vun_ok {c : ACode} {f : SFr → SH → KC → Prop} {K : KC} (hf : ∀ {l : List Item} {τ : SFr} {H : SH} {K : KC}, f τ H K → (∀ e τ' H', K e τ' H' → Co P nt k Q l e (encT τ') (encH H')) → Go P nt k Q (.code c :: l) (encT τ) (encH H))
    (hK : ∀ e τ' H', e ≠ .normal → K e τ' H' → Co P nt k Q l e (encT τ') (encH H')) {n : Nat} {τ : SFr} {H : SH} (h : vun f K n τ H) : Go P nt k Q (.code (.loop c) :: l) (encT τ) (encH H) := by
  refine go_loop (X := Nat) (fun m τ H => ∃ τS HS, τ = encT τS ∧ H = encH HS ∧ vun f K m τS HS) id n (.now ⟨τ, H, rfl, rfl, h⟩) ?_
  rintro m _ _ ⟨τS, HS, rfl, rfl, hm⟩
  cases m with
  | zero => exact hm.elim
  | succ m =>
    refine hf hm ?_
    intro e τ' H' he
    cases e with
    | normal => exact .now ⟨m, Nat.lt_succ_self m, τ', H', rfl, rfl, he⟩
    | exit j => exact hK _ _ _ (by simp) he
    | ret => exact hK _ _ _ (by simp) he

theorem vc_ok {te : TE} {sg : Sg} (hE : SgOK P sg) {un : Nat} {ann : Nat → Option LA} (hm : P.follows .mixedOrders = true) : ∀ {c : ACode} {lb : Nat} {l : List Item} {τ : SFr} {H : SH} {K : KC}, vc P te sg k un ann lb c τ H K →
    (∀ e τ' H', K e τ' H' → Co P nt k Q l e (encT τ') (encH H')) → Go P nt k Q (.code c :: l) (encT τ) (encH H)
  | .skip, lb, l, τ, H, K, h, hK => go_skip (hK _ _ _ h)
  | .region ops, lb, l, τ, H, K, h, hK => go_region (vops_ok hE h fun τ' H' h' => hK _ _ _ h')
  | .dregion ops, lb, l, τ, H, K, h, hK => by
    simp only [vc] at h
    obtain ⟨τ1, H1, h1, hw, _⟩ := vfz_ok (P := P) h
    exact go_wk hw (go_dregion hm (vdops_ok hE (encH_length H1) (hs := []) (fun τ' H' h' => hK _ _ _ h') h1 trivial))
  | .seq a b, lb, l, τ, H, K, h, hK => by
    simp only [vc] at h
    refine go_seq (vc_ok hE hm h ?_)
    intro e τ' H' he
    cases e with
    | normal => exact vc_ok hE hm he hK
    | exit j => exact hK _ _ _ he
    | ret => exact hK _ _ _ he
  | .cond c a b, lb, l, τ, H, K, h, hK => by
    simp only [vc] at h
    split at h
    · rename_i t ht
      have hce : opdL (encT τ) c = .bool t := by rw [opd_enc, ht]; rfl
      have hwk : ∀ t', t = t' → Wk P k (encT τ) (encH H) (encT (subC c t' τ)) (encH H) := by
        intro t' e
        subst e
        cases c with
        | tmp n => exact wk_lk (lk_same ht)
        | _ => exact .refl
      unfold vcond at h
      split at h
      · cases t with
        | true => exact go_true hce (go_wk (hwk true rfl) (vc_ok hE hm h hK))
        | false => exact go_false hce (go_wk (hwk false rfl) (vc_ok hE hm h hK))
      · rename_i la hla
        split at h
        · rename_i ts hts
          obtain ⟨J, h1, h2⟩ := h
          simp only [fst2_iff] at h2
          refine go_cut (fun τ' H' => ∃ x, J x ∧ τ' = encT (shape la τ H ts x).τ ∧ H' = encH (shape la τ H ts x).H) ?_ ?_
          · have hKK : ∀ (e : AExit) (τ' : SFr) (H' : SH), (match e with
                | .normal => ∃ x, weak k τ' H' (shape la τ H ts x) ∧ J x
                | e => K e τ' H') → Co P nt k Q (.stop (fun τ' H' => ∃ x, J x ∧ τ' = encT (shape la τ H ts x).τ ∧ H' = encH (shape la τ H ts x).H) :: l) e (encT τ') (encH H') := by
              intro e τ' H' he
              cases e with
              | normal =>
                obtain ⟨x, hw, hx⟩ := he
                exact ⟨_, _, weak_ok hw, x, hx, rfl, rfl⟩
              | exit j => exact hK _ _ _ he
              | ret => exact hK _ _ _ he
            cases t with
            | true => exact go_true hce (go_wk (hwk true rfl) (vc_ok hE hm h1 hKK))
            | false => exact go_false hce (go_wk (hwk false rfl) (vc_ok hE hm h1 hKK))
          · rintro _ _ ⟨x, hx, rfl, rfl⟩
            exact hK _ _ _ (h2 x hx)
        · cases h
    · cases h
  | .block id c, lb, l, τ, H, K, h, hK => by
    simp only [vc] at h
    refine go_block (vc_ok hE hm h ?_)
    intro e τ' H' he
    cases e with
    | normal => exact hK _ _ _ he
    | ret => exact hK _ _ _ he
    | exit j =>
      simp only [Co]
      by_cases hj : j = id
      · subst hj
        rw [if_pos rfl]
        simp only [Nat.beq_refl, cond_true] at he
        exact hK _ _ _ he
      · rw [if_neg hj]
        simp only [beqF hj, cond_false] at he
        exact hK _ _ _ he
  | .loop c, lb, l, τ, H, K, h, hK => by
    simp only [vc] at h
    unfold vloop at h
    split at h
    · rename_i la hA
      split at h
      · rename_i ts hts
        obtain ⟨I, μ, ⟨x0, hw0, h0⟩, hb⟩ := h
        simp only [fst2_iff] at hb
        refine go_loop (X := denR ts) (fun x τ' H' => I x ∧ τ' = encT (shape la τ H ts x).τ ∧ H' = encH (shape la τ H ts x).H) μ x0 ⟨_, _, weak_ok hw0, h0, rfl, rfl⟩ ?_
        rintro x _ _ ⟨hx, rfl, rfl⟩
        refine vc_ok hE hm (hb x hx) ?_
        intro e τ' H' he
        cases e with
        | normal =>
          obtain ⟨y, hw, hy, hμ⟩ := he
          exact ⟨_, _, weak_ok hw, y, hμ, hy, rfl, rfl⟩
        | exit j => exact hK _ _ _ he
        | ret => exact hK _ _ _ he
      · cases h
    · exact vun_ok (fun h' hK' => vc_ok hE hm h' hK') (fun e τ' H' _ he => hK e τ' H' he) h
  | .exit id, lb, l, τ, H, K, h, hK => by
    refine wc_exit ?_
    exact hK _ _ _ h
  | .ret, lb, l, τ, H, K, h, hK => by
    refine wc_ret ?_
    exact hK _ _ _ h
  | .strRange .., lb, l, τ, H, K, h, hK => h.elim
  | .fail, lb, l, τ, H, K, h, hK => h.elim

/-! ### Functions -/

theorem uncl_le : ∀ (t : Ty) {r r2 : List L} {x : den t}, uncl true t r = some (x, r2) → ∃ c1, r = c1 ++ r2 ∧ VLes (encs c1) (cv t x)
  | .int k, .v (.int k' n) :: r, r2, x, h => by
    simp only [uncl] at h
    cases hk : kbeq k k' with
    | false => rw [hk] at h; cases h
    | true => rw [hk] at h; cases h; have : k = k' := kbeq_eq hk; subst this; exact ⟨[_], rfl, .refl _, rfl, trivial⟩
  | .bool, .v (.bool b) :: r, r2, x, h => by cases h; exact ⟨[_], rfl, .refl _, rfl, trivial⟩
  | .str, .v (.string s) :: r, r2, x, h => by cases h; exact ⟨[_], rfl, .refl _, rfl, trivial⟩
  | .sl e, .sl t l :: r, r2, x, h => by
    simp only [uncl] at h
    split at h
    · rename_i hb
      have := Ty.eq_of_beq hb
      subst this
      cases h; exact ⟨[_], rfl, .refl _, rfl, trivial⟩
    · cases h
  | .sl _, .v (.slice none 0 0) :: r, r2, x, h => by
    simp only [uncl, cond_true] at h
    cases h
    exact ⟨[_], rfl, VLe.nil, rfl, trivial⟩
  | .unit, r, r2, x, h => by cases h; exact ⟨[], rfl, trivial⟩
  | .pair a b, r, r2, x, h => by
    simp only [uncl] at h
    split at h
    · rename_i y r1 h1
      split at h
      · rename_i z r3 h3
        cases h
        obtain ⟨c1, rfl, v1⟩ := uncl_le a h1
        obtain ⟨c2, rfl, v2⟩ := uncl_le b h3
        refine ⟨c1 ++ c2, by simp, ?_⟩
        rw [encs_append]
        simp only [cv]
        generalize encs c1 = A at v1
        generalize cv a y = B at v1
        clear h1
        induction A generalizing B with
        | nil => cases B with
          | nil => exact v2
          | cons => exact v1.elim
        | cons p A ih => cases B with
          | nil => exact v1.elim
          | cons q B => exact ⟨v1.1, v1.2.1, ih B v1.2.2⟩
      · cases h
    · cases h

theorem vles_rel {φ : Phi} : ∀ {l l2 l' : List Value}, VLes l l2 → VsRel φ l l' → VsRel φ l2 l'
  | [], [], _, _, h => h
  | v :: l, v2 :: l2, _, hv, h => by
    cases h with
    | cons h1 h2 => exact .cons (hv.1 _ _ h1) (vles_rel hv.2.2 h2)
  | [], _ :: _, _, h, _ => h.elim
  | _ :: _, [], _, h, _ => h.elim
theorem vles_one : ∀ {l l2 : List Value}, VLes l l2 → ∀ v ∈ l2, v.one1 = true
  | [], [], _, v, h => by cases h
  | _ :: _, _ :: _, hv, v, h => by
    rcases List.mem_cons.1 h with rfl | h
    · exact hv.2.1
    · exact vles_one hv.2.2 v h
  | [], _ :: _, h, _, _ => h.elim
  | _ :: _, [], h, _, _ => h.elim

def isU (t : Ty) (cs : List L) (r : den t) : Prop := match uncl true t cs with | some (y, []) => y = r | _ => False
def isUs (t : Ty) (cs : List L) (r : den t) : Prop := match uncl false t cs with | some (y, []) => y = r | _ => False
/-- A value is the typed one. -/
def isVal (t : Ty) (v : SV) (r : den t) : Prop :=
  match t, v, r with
  | .int k, .s (.one x), r => isU (.int k) [x] r
  | .bool, .s (.one x), r => isU .bool [x] r
  | .str, .s (.one x), r => isU .str [x] r
  | .sl e, .s (.one x), r => isU (.sl e) [x] r
  | .pair a b, .s (.agg cs), r => isU (.pair a b) cs r
  | .unit, .s (.agg []), _ => True
  | _, _, _ => False
theorem vles_single {v w : Value} (h : VLes [v] [w]) : VLe v w := h.1
theorem uncl_one {t : Ty} {x : L} {r : den t} (h : isU t [x] r) : ∃ c1, [x] = c1 ++ [] ∧ VLes (encs c1) (cv t r) := by
  unfold isU at h
  split at h
  · rename_i y hy
    subst h
    exact uncl_le t hy
  · cases h
theorem isVal_ok {t : Ty} {v : SV} {r : den t} (h : isVal t v r) : VLe v.enc (s0 t r).enc := by
  unfold isVal at h
  split at h
  · obtain ⟨c1, hc, hv⟩ := uncl_one h
    simp only [List.append_nil] at hc; subst hc; exact vles_single hv
  · obtain ⟨c1, hc, hv⟩ := uncl_one h
    simp only [List.append_nil] at hc; subst hc; exact vles_single hv
  · obtain ⟨c1, hc, hv⟩ := uncl_one h
    simp only [List.append_nil] at hc; subst hc; exact vles_single hv
  · obtain ⟨c1, hc, hv⟩ := uncl_one h
    simp only [List.append_nil] at hc; subst hc; exact vles_single hv
  · rename_i a b cs r
    unfold isU at h
    split at h
    · rename_i y hy
      subst h
      obtain ⟨c1, hc, hv⟩ := uncl_le _ hy
      simp only [List.append_nil] at hc
      subst hc
      intro φ v' hr
      have hr : VRel φ (.agg (encs cs).toArray) v' := hr
      simp only [s0, S0.enc, encs_cl]
      cases hr with
      | agg h1 h2 => exact .agg (vles_one hv) (vles_rel hv h2)
    · cases h
  · exact VLe.refl _
  · cases h

def areVals : (rt : List Ty) → List SV → denR rt → Prop
  | [], [], _ => True
  | [t], [v], r => isVal t v r
  | t :: u :: rt, v :: vs, r => isVal t v r.1 ∧ areVals (u :: rt) vs r.2
  | _, _, _ => False
theorem areVals_ok : ∀ {rt : List Ty} {vs : List SV} {r : denR rt}, areVals rt vs r → vs.length = rt.length ∧ ∀ (φ : Phi) (l' : List Value), VsRel φ (vs.map SV.enc) l' → VsRel φ ((s0s rt r).map S0.enc) l'
  | [], [], r, h => ⟨rfl, fun φ l' h => h⟩
  | [t], [v], r, h => ⟨rfl, fun φ l' hl => by
    cases hl with
    | cons h1 h2 => exact .cons (isVal_ok h _ _ h1) h2⟩
  | t :: u :: rt, v :: vs, r, h => by
    obtain ⟨h1, h2⟩ := areVals_ok (rt := u :: rt) h.2
    refine ⟨by simp only [List.length_cons] at h1 ⊢; omega, fun φ l' hl => ?_⟩
    cases hl with
    | cons h3 h4 => exact .cons (isVal_ok h.1 _ _ h3) (h2 φ _ h4)
  | [], _ :: _, r, h => h.elim
  | [t], [], r, h => h.elim
  | [t], _ :: _ :: _, r, h => h.elim
  | _ :: _ :: _, [], r, h => h.elim

def resS (τ : SFr) (H : SH) : Sum Tmp (Tmp × Option Nat) → Option SV
  | .inl t => some (lkS τ t)
  | .inr (t, sz) => (match lkS τ t with
    | .s (.one (.ptr b off)) => (match H[b]? with
      | some (.cells cs _) => partS sz cs off
      | _ => none)
    | _ => none)
def ressS (τ : SFr) (H : SH) : List (Sum Tmp (Tmp × Option Nat)) → Option (List SV)
  | [] => some []
  | r :: rest => match resS τ H r with
    | some v => (match ressS τ H rest with | some vs => some (v :: vs) | none => none)
    | none => none
theorem resS_ok {τ : SFr} {H : SH} {r : Sum Tmp (Tmp × Option Nat)} {v : SV} (h : resS τ H r = some v) : resL (encT τ) (encH H) r = some v.enc := by
  cases r with
  | inl t => cases h; simp only [resL, lk_enc]
  | inr p =>
    obtain ⟨t, sz⟩ := p
    simp only [resS] at h
    split at h
    · rename_i b off ht
      split at h
      · rename_i cs e hb
        simp only [resL, lk_enc, ht, SV.enc, S0.enc, L.enc, readH, encH_at hb, Ob.enc, partS_ok h]
      · cases h
    · cases h
theorem ressS_ok {τ : SFr} {H : SH} : ∀ {l : List (Sum Tmp (Tmp × Option Nat))} {vs : List SV}, ressS τ H l = some vs → ressL (encT τ) (encH H) l = some (vs.map SV.enc)
  | [], vs, h => by cases h; rfl
  | r :: rest, vs, h => by
    simp only [ressS] at h
    split at h
    · rename_i v hv
      split at h
      · rename_i vs' hvs
        cases h
        simp only [ressL, resS_ok hv, ressS_ok hvs, List.map_cons]
      · cases h
    · cases h

def ownRes (τ : SFr) (H : SH) : List (Sum Tmp (Tmp × Option Nat)) → List Nat
  | [] => []
  | r :: rest => (match resS τ H r with | some v => ownS v | none => []) ++ ownRes τ H rest

def vret (k : Nat) (res : List (Sum Tmp (Tmp × Option Nat))) (rt : List Ty) (r : denR rt) (A : SH → Prop) : KC := fun e τ H => match e with
  | .exit _ => False
  | _ => vfz k (ownRes τ H res) τ H fun τ H => match ressS τ H res with
    | some vs => areVals rt vs r ∧ A H
    | none => False

def argsS (i : Nat) : List SV → SFr
  | [] => []
  | v :: l => (i, v) :: argsS (Nat.add i 1) l
theorem argsS_enc : ∀ (i : Nat) (l : List SV), encT (argsS i l) = argsF i (l.map SV.enc)
  | _, [] => rfl
  | i, v :: l => by
    have := argsS_enc (i + 1) l
    simp only [encT] at this
    simp only [argsS, encT, List.map_cons, argsF, this]

theorem s0s_length : ∀ (rt : List Ty) (r : denR rt), (s0s rt r).length = rt.length
  | [], _ => rfl
  | [_], _ => rfl
  | t :: u :: rt, r => by
    have := s0s_length (u :: rt) r.2
    simp only [s0s, List.length_cons] at this ⊢
    omega
theorem pack_le {rt : List Ty} {vs : List SV} {r : denR rt} (h : areVals rt vs r) : VLe (packRes (vs.map SV.enc)) (svR rt r).enc := by
  obtain ⟨h1, h2⟩ := areVals_ok h
  rw [svR_pack]
  intro φ v' hr
  have hl : (s0s rt r).length = rt.length := by
    exact s0s_length rt r
  generalize s0s rt r = m at h2 hl
  rw [← h1] at hl
  cases vs with
  | nil =>
    cases m with
    | nil => exact hr
    | cons a m => simp at hl
  | cons v vs =>
    cases vs with
    | nil =>
      cases m with
      | nil => simp at hl
      | cons a m => cases m with
        | cons b m => simp at hl
        | nil =>
          have := h2 φ [v'] (.cons hr .nil)
          cases this with
          | cons h3 _ => exact h3
    | cons w vs =>
      cases m with
      | nil => simp at hl
      | cons a m => cases m with
        | nil => simp at hl
        | cons b m =>
          have hr : VRel φ (.tuple (((v :: w :: vs).map SV.enc)).toArray) v' := hr
          cases hr with
          | tuple h3 => exact .tuple (h2 φ _ h3)

theorem pur_of_go2 {f : FuncId} {F : AFunc} (hF : compF P f = some F) {args : List Value} {v : Value} (ha : PVs args) (hv : PV v) (h : ∀ nt, Go P nt 0 (Ends F fun u _ => VLe u v) [.code F.code] (argsF 0 args) []) : Pur P f args v := by
  obtain ⟨h1, h2⟩ := ends_calls (H := []) hF h
  refine ⟨fun σ hσ => ⟨hp [], hp_rp [], h1, by rw [hσ.size, (hp_rp []).size]; exact Nat.le_refl _, fun φ w args' hR hargs => ?_⟩, ha, hv⟩
  refine (h2 σ hσ φ w args' hR hargs).mono ?_
  rintro e w' ⟨u, H', φ', v', σ', hu, hr, rfl, hv', hp⟩
  exact ⟨res φ' 0, v', rfl, hv.bel 0 φ' v' (hu _ _ hv'), hp.low hR hr (by rw [hσ.size]; exact Nat.zero_le _) trivial⟩

/-- A function of plain values with a plain result. -/
theorem pur_of_vc {f : FuncId} {F : AFunc} (hF : compF P f = some F) (hm : P.follows .mixedOrders = true) {te : TE} {sg : Sg} (hE : SgOK P sg) {un : Nat} {ann : Nat → Option LA} {args : List SV} (ha : PVs (args.map SV.enc)) {rt : List Ty} {r : denR rt}
    (h : vc P te sg 0 un ann 0 F.code (argsS 0 args) [] (vret 0 F.res rt r fun _ => True)) : Pur P f (args.map SV.enc) (svR rt r).enc := by
  refine pur_of_go2 hF ha (svR_pv rt r) fun nt => ?_
  have hgo := vc_ok (P := P) (nt := nt) (Q := Ends F fun u _ => VLe u (svR rt r).enc) (l := []) hE hm h ?_
  · rw [argsS_enc] at hgo
    exact hgo
  intro e τ' H' he
  have key : vfz 0 (ownRes τ' H' F.res) τ' H' (fun τ H => match ressS τ H F.res with | some vs => areVals rt vs r ∧ True | none => False) → Fin P 0 (fun τ H => ∃ vs, ressL τ H F.res = some vs ∧ VLe (packRes vs) (svR rt r).enc) (encT τ') (encH H') := by
    intro h
    obtain ⟨τ1, H1, h1, hw, _⟩ := vfz_ok (P := P) h
    split at h1
    · rename_i vs hvs
      exact ⟨_, _, hw, _, ressS_ok hvs, pack_le h1.1⟩
    · cases h1
  cases e with
  | normal => exact key he
  | ret => exact key he
  | exit j => exact he.elim

/-- A method of a block. -/
theorem meth_of_vc {f : FuncId} {F : AFunc} (hF : compF P f = some F) (hm : P.follows .mixedOrders = true) {te : TE} {sg : Sg} (hE : SgOK P sg) {un : Nat} {ann : Nat → Option LA} {args : List SV} (ha : PVs (args.map SV.enc)) {rt : List Ty} {r : denR rt} {t : Ty} {x x' : den t} {e0 : TypeId}
    (h : vc P te sg 1 un ann 0 F.code (argsS 0 (.s (.one (.ptr 0 0)) :: args)) [.cells (cl t x) e0] (vret 1 F.res rt r fun H => match H with | .cells cs e :: _ => (cond (Nat.beq e e0) (isUs t cs x') False) | _ => False)) :
    Meth P f (args.map SV.enc) ⟨cv t x, e0, true⟩ (svR rt r).enc ⟨cv t x', e0, true⟩ := by
  have hfin : ∀ nt, Go P nt 1 (Ends F fun u H => VLe u (svR rt r).enc ∧ hget H 0 = some ⟨cv t x', e0, true⟩) [.code F.code] (argsF 0 (.pointer (some ⟨0, 0, none⟩) :: args.map SV.enc)) [some ⟨cv t x, e0, true⟩] := by
    intro nt
    have hgo := vc_ok (P := P) (nt := nt) (Q := Ends F fun u H => VLe u (svR rt r).enc ∧ hget H 0 = some ⟨cv t x', e0, true⟩) (l := []) hE hm h ?_
    · rw [argsS_enc] at hgo
      simp only [encH, List.map_cons, List.map_nil, Ob.enc, encs_cl] at hgo
      exact hgo
    intro e τ' H' he
    have key : vfz 1 (ownRes τ' H' F.res) τ' H' (fun τ H => match ressS τ H F.res with | some vs => areVals rt vs r ∧ (match H with | .cells cs e :: _ => (cond (Nat.beq e e0) (isUs t cs x') False) | _ => False) | none => False) →
        Fin P 1 (fun τ H => ∃ vs, ressL τ H F.res = some vs ∧ VLe (packRes vs) (svR rt r).enc ∧ hget H 0 = some ⟨cv t x', e0, true⟩) (encT τ') (encH H') := by
      intro h
      obtain ⟨τ1, H1, h1, hw, _⟩ := vfz_ok (P := P) h
      split at h1
      · rename_i vs hvs
        obtain ⟨h2, h3⟩ := h1
        refine ⟨_, _, hw, _, ressS_ok hvs, pack_le h2, ?_⟩
        split at h3
        · rename_i cs e r'
          rw [Bool.cond_eq_ite] at h3
          split at h3
          · rename_i hee
            have := Nat.eq_of_beq_eq_true hee
            subst this
            unfold isUs at h3
            split at h3
            · rename_i y hy
              subst h3
              have := uncl_eq t hy
              simp only [encs, List.map_nil, List.append_nil] at this
              simp only [encH, List.map_cons, Ob.enc, hget_z, encs, this]
            · cases h3
          · cases h3
        · cases h3
      · cases h1
    cases e with
    | normal => exact key he
    | ret => exact key he
    | exit j => exact he.elim
  obtain ⟨h1, h2⟩ := ends_calls (H := [some ⟨cv t x, e0, true⟩]) hF hfin
  refine ⟨fun σ hσ => ⟨hp [some ⟨cv t x', e0, true⟩], hp_rp _, h1, by rw [hσ.size, (hp_rp [some ⟨cv t x', e0, true⟩]).size]; exact Nat.le_refl _, fun φ w args' hR hargs => ?_⟩, ha, svR_pv rt r, cv_pvs t x, cv_pvs t x'⟩
  refine (h2 σ hσ φ w args' hR hargs).mono ?_
  rintro e w' ⟨u, H', φ', v', σ', ⟨hu, hg⟩, hr, rfl, hv', hp⟩
  have ht : H'.take 1 = [some ⟨cv t x', e0, true⟩] := by
    cases H' with
    | nil => simp [hget] at hg
    | cons x r => rw [hget_z] at hg; subst hg; simp
  refine ⟨res φ' 1, v', rfl, (svR_pv rt r).bel 1 φ' v' (hu _ _ hv'), ?_⟩
  have := hp.low hR hr (j := 1) (by rw [hσ.size]; exact Nat.le_refl _) (by rw [ht]; exact ⟨fun y hy => (cv_pvs t x' y hy).bel 1, trivial⟩)
  rw [ht] at this
  exact this

theorem purT_of_vc {f : FuncId} {F : AFunc} (hF : compF P f = some F) (hm : P.follows .mixedOrders = true) (te : TE) (sl : List (FuncId × Sig)) (hE : SgsOK P sl) (un : Nat) (ann : Nat → Option LA) {ts : List Ty} {x : denR ts} {rt : List Ty} {r : denR rt}
    (h : vc P te (sgL sl) 0 un ann 0 F.code (argsS 0 (argsT ts x)) [] (vret 0 F.res rt r fun _ => True)) : PurT P f ts x rt r := pur_of_vc hF hm hE.ok (argsT_pv ts x) h
def methPost (e0 : TypeId) (t : Ty) (o' : den t) (H : SH) : Prop := match H with | .cells cs e :: _ => (cond (Nat.beq e e0) (isUs t cs o') False) | _ => False
theorem methT_of_vc {f : FuncId} {F : AFunc} (hF : compF P f = some F) (hm : P.follows .mixedOrders = true) (te : TE) (sl : List (FuncId × Sig)) (hE : SgsOK P sl) (un : Nat) (ann : Nat → Option LA) {ts : List Ty} {x : denR ts} {rt : List Ty} {r : denR rt} {t : Ty} {o o' : den t} {e : TypeId}
    (h : vc P te (sgL sl) 1 un ann 0 F.code (argsS 0 (.s (.one (.ptr 0 0)) :: argsT ts x)) [.cells (cl t o) e] (vret 1 F.res rt r (methPost e t o'))) : MethT P f e t o ts x rt r o' := meth_of_vc hF hm hE.ok (argsT_pv ts x) h

end Go.Bx

