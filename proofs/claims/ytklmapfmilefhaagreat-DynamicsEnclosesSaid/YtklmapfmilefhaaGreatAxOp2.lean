/-
  AX, PART 5: the operations without memory.
-/
import Derived.Test.YtklmapfmilefhaaGreatAxOp
import Derived.Laws.StructEq
set_option linter.unusedSimpArgs false
set_option linter.unusedVariables false
set_option linter.unusedSectionVars false
namespace Go.Ax
variable {P : Program}
section
variable {φ : Phi} {σ : AHeap} {w : World} {ρ ρ' : Operand → Value} {o : Oper} {v : Value} {σ' : AHeap}

theorem ok_mv {x : Operand} (hrun : ∀ w, (execOp ρ' o).run P w = .ok (.value (ρ' x)) w) (hx : VRel φ (ρ x) (ρ' x)) (hR : R P φ σ w) (h : op1 ρ σ (.mv x) = some (v, σ')) : OpOk P φ σ w ρ' o v σ' := by
  simp only [op1, Option.some.injEq, Prod.mk.injEq] at h
  obtain ⟨rfl, rfl⟩ := h
  exact .pure hR hx (hrun w)

theorem ok_pick {c a b : Operand} (ho : o.op = .pick c a b) (hc : VRel φ (ρ c) (ρ' c)) (ha : VRel φ (ρ a) (ρ' a)) (hb : VRel φ (ρ b) (ρ' b)) (hR : R P φ σ w) (h : op1 ρ σ (.pick c a b) = some (v, σ')) : OpOk P φ σ w ρ' o v σ' := by
  cases hp : ρ c with
  | bool t =>
    rw [hp] at hc
    generalize hq : ρ' c = q at hc
    cases hc
    cases t <;> simp only [op1, hp, Option.some.injEq, Prod.mk.injEq] at h <;> obtain ⟨rfl, rfl⟩ := h
    · exact .pure hR hb (by simp [execOp, ho, hq, asBool])
    · exact .pure hR ha (by simp [execOp, ho, hq, asBool])
  | _ => simp [op1, hp] at h

theorem run_intArith (op : BinOp) (k : IntKind) (a b : Int) (v : Value) (w : World) (h : intBin op k a b = some v) (hop : op = .add ∨ op = .sub ∨ op = .mul) : (Op.intArith op k a b).run P w = .ok v w := by
  rcases hop with rfl | rfl | rfl <;> simp only [intBin, Option.some.injEq] at h <;> subst h <;> rfl

theorem run_intBin (op : BinOp) (t : TypeId) (k : IntKind) (a b : Int) (v : Value) (w : World) (h : intBin op k a b = some v) : (binOp op t (.int k a) (.int k b)).run P w = .ok v w := by
  cases op <;> simp only [intBin, Option.some.injEq, reduceCtorEq] at h
  case quo => split at h <;> simp_all [binOp, Op.intDiv]
  case rem => split at h <;> simp_all [binOp, Op.intDiv]
  all_goals (subst h; simp [binOp, Op.intArith, Op.intBits, Op.intCmp])

theorem run_shift (op : BinOp) (t : TypeId) (k l : IntKind) (a b : Int) (v : Value) (w : World) (h : shiftBin op k a b = some v) : (binOp op t (.int k a) (.int l b)).run P w = .ok v w := by
  unfold shiftBin at h
  split at h
  · cases h
  · rename_i hn
    cases op <;> simp only [Option.some.injEq, reduceCtorEq] at h <;> subst h <;> simp [binOp, Op.shift, hn]

theorem run_strBin (op : BinOp) (t : TypeId) (a b : ByteArray) (v : Value) (w : World) (h : strBin op a b = some v) : (binOp op t (.string a) (.string b)).run P w = .ok v w := by
  cases op <;> simp only [strBin, Option.some.injEq, reduceCtorEq] at h
  case add =>
    cases hb : Nat.ble (a.size + b.size) 140737488355328 with
    | false => simp [hb] at h
    | true =>
      simp only [hb, cond_true, Option.some.injEq] at h
      have hle := Nat.le_of_ble_eq_true hb
      have : ¬ ((9223372036854775807 : Int) < (a.size : Int) + (b.size : Int)) := by omega
      subst h
      simp [binOp, Op.stringOp, IntKind.max, IntKind.signed, IntKind.bits, this]
  all_goals (subst h; simp [binOp, Op.stringOp])

theorem flatEq_split : ∀ {ks : List CK} {xs ys xs' ys' : List Value} {ks' : List CK} {b : Bool}, flatEq (ks ++ ks') (xs ++ xs') (ys ++ ys') = some b → xs.length = ks.length → ys.length = ks.length →
    ∃ p q, flatEq ks xs ys = some p ∧ flatEq ks' xs' ys' = some q ∧ b = (p && q)
  | [], [], [], _, _, _, b, h, _, _ => ⟨true, b, rfl, by simpa using h, by simp⟩
  | [], _ :: _, _, _, _, _, _, _, h, _ => by simp at h
  | [], _, _ :: _, _, _, _, _, _, _, h => by simp at h
  | _ :: _, [], _, _, _, _, _, _, h, _ => by simp at h
  | _ :: _, _, [], _, _, _, _, _, _, h => by simp at h
  | k :: ks, x :: xs, y :: ys, xs', ys', ks', b, h, hx, hy => by
    have hx' : xs.length = ks.length := by simpa using hx
    have hy' : ys.length = ks.length := by simpa using hy
    simp only [List.cons_append] at h
    cases k <;> cases x <;> cases y <;> simp only [flatEq, reduceCtorEq] at h
    · split at h
      · rename_i hk
        cases hf : flatEq (ks ++ ks') (xs ++ xs') (ys ++ ys') with
        | none => simp [hf] at h
        | some r =>
          obtain ⟨p, q, hp, hq, e⟩ := flatEq_split hf hx' hy'
          simp [hf] at h
          exact ⟨_, q, by simp [flatEq, hp, hk]; rfl, hq, by rw [← h, e]; simp [Bool.and_assoc]⟩
      · cases h
    · cases hf : flatEq (ks ++ ks') (xs ++ xs') (ys ++ ys') with
      | none => simp [hf] at h
      | some r =>
        obtain ⟨p, q, hp, hq, e⟩ := flatEq_split hf hx' hy'
        simp [hf] at h
        exact ⟨_, q, by simp [flatEq, hp]; rfl, hq, by rw [← h, e]; simp [Bool.and_assoc]⟩
    · cases hf : flatEq (ks ++ ks') (xs ++ xs') (ys ++ ys') with
      | none => simp [hf] at h
      | some r =>
        obtain ⟨p, q, hp, hq, e⟩ := flatEq_split hf hx' hy'
        simp [hf] at h
        exact ⟨_, q, by simp [flatEq, hp]; rfl, hq, by rw [← h, e]; simp [Bool.and_assoc]⟩

theorem flatEq_length : ∀ {ks : List CK} {xs ys : List Value} {b : Bool}, flatEq ks xs ys = some b → xs.length = ks.length ∧ ys.length = ks.length
  | [], [], [], _, _ => ⟨rfl, rfl⟩
  | [], _ :: _, _, _, h => by simp [flatEq] at h
  | [], [], _ :: _, _, h => by simp [flatEq] at h
  | k :: ks, [], _, _, h => by cases k <;> simp [flatEq] at h
  | k :: ks, x :: xs, [], _, h => by cases k <;> cases x <;> simp [flatEq] at h
  | k :: ks, x :: xs, y :: ys, b, h => by
    have : ∃ r, flatEq ks xs ys = some r := by
      cases hf : flatEq ks xs ys with
      | some r => exact ⟨r, rfl⟩
      | none => cases k <;> cases x <;> cases y <;> simp [flatEq, hf] at h
    obtain ⟨r, hr⟩ := this
    have := flatEq_length hr
    simp [this]

/-- A value out of its cells. -/
def ofCells (agg : Bool) (l : List Value) : Value := if agg then .agg l.toArray else l.headD undef

theorem flatT_shape {d : Nat} {t : TypeId} {ks : List CK} (h : flatT P d t = some ks) : sizeT P t = some ks.length ∧ ∃ b, (isAgg t).run P = (fun w => .ok b w) ∧ (b = false → ks.length = 1) := by
  cases d with
  | zero => simp [flatT] at h
  | succ d =>
    unfold flatT at h
    split at h <;> first
      | (cases h; rename_i hu hs; exact ⟨hs, false, funext fun w => by simp [isAgg, run_underlying hu], fun _ => rfl⟩)
      | skip
    · rename_i hu hs
      split at h
      · split at h
        · rename_i h2
          cases h; exact ⟨by rw [hs, h2.2], true, funext fun w => by simp [isAgg, run_underlying hu], by simp⟩
        · cases h
      · cases h
    · rename_i hu hs
      split at h
      · split at h
        · rename_i h2
          cases h
          refine ⟨?_, true, funext fun w => by simp [isAgg, run_underlying hu], by simp⟩
          rw [hs, ← h2.1]; simp
        · cases h
      · cases h
    · cases h

theorem run_part_flat {t : TypeId} {n : Nat} {b : Bool} (hs : sizeT P t = some n) (hb : (isAgg t).run P = (fun w => .ok b w)) (h1 : b = false → n = 1) (xs : Array Value) (off : Nat) (hle : off + n ≤ xs.size) (w : World) :
    (part t xs off).run P w = .ok (ofCells b ((xs.toList.drop off).take n)) w := by
  have hb' : (isAgg t).run P w = .ok b w := congrFun hb w
  cases b with
  | true =>
    have : xs.extract off (off + n) = ((xs.toList.drop off).take n).toArray := by
      apply Array.ext'
      simp [Array.toList_extract, List.extract_eq_take_drop]
    simp [part, hb', run_sizeT hs, ofCells, this]
  | false =>
    have h1 := h1 rfl
    subst h1
    have hlt : off < xs.size := by omega
    have : (xs.toList.drop off).take 1 = [xs[off]] := by
      rw [List.drop_eq_getElem_cons (by simpa using hlt)]; simp
    simp [part, hb', ofCells, hlt, this]

theorem equalIn_flat : ∀ (d : Nat) (t : TypeId) (ks : List CK), flatT P d t = some ks → ∀ (D : Nat), d ≤ D → ∀ (b : Bool), (isAgg t).run P = (fun w => .ok b w) → ∀ (xs ys : List Value) (r : Bool), flatEq ks xs ys = some r →
    ∀ w, (Op.equalIn D t (ofCells b xs) (ofCells b ys)).run P w = .ok r w
  | 0, t, ks, h, _, _, _, _, _, _, _, _, _ => by simp [flatT] at h
  | d + 1, t, ks, h, 0, hD, _, _, _, _, _, _, _ => by omega
  | d + 1, t, ks, h, D + 1, hD, b, hb, xs, ys, r, hr, w => by
    have hbw : ∀ c, (isAgg t).run P w = .ok c w → b = c := fun c hc => by
      have := congrFun hb w
      rw [hc] at this
      injection this with h1 _
      exact h1.symm
    obtain ⟨hlx, hly⟩ := flatEq_length hr
    unfold flatT at h
    split at h
    · cases h
      rename_i hu hs
      obtain rfl := hbw false (by simp [isAgg, run_underlying hu])
      match xs, ys, hr with
      | [.int k a], [.int l c], hr =>
        simp only [flatEq] at hr
        split at hr
        · rename_i hk; subst hk
          simp at hr; subst hr
          simp [ofCells, run_equalIn_int w D t k _ a c hu]
        · cases hr
    · cases h
      rename_i hu hs
      obtain rfl := hbw false (by simp [isAgg, run_underlying hu])
      match xs, ys, hr with
      | [.bool a], [.bool c], hr =>
        simp [flatEq] at hr; subst hr
        simp [ofCells, run_equalIn_bool' w D t a c hu]
    · cases h
      rename_i hu hs
      obtain rfl := hbw false (by simp [isAgg, run_underlying hu])
      match xs, ys, hr with
      | [.string a], [.string c], hr =>
        simp [flatEq] at hr; subst hr
        simp [ofCells, run_equalIn_string w D t a c hu, beq_toListBytes]
    · rename_i fs n hu hs
      obtain rfl := hbw true (by simp [isAgg, run_underlying hu])
      split at h
      · rename_i ks' hf
        split at h
        · rename_i h2
          cases h
          have hfo : P.fieldsOf t = fs := by simp [Program.fieldsOf, hu]
          simp only [ofCells, if_true]
          rw [run_equalIn_struct w D t _ _ (by rw [hfo]; exact hu) h2.1, hfo]
          -- the fields, one by one
          have key : ∀ (fl : List Field) (off : Nat) (kk : List CK) (px py : List Value), flatFs (flatT P d) fl off = some kk → px.length = off → py.length = off → ∀ (qx qy : List Value) (r : Bool), flatEq kk qx qy = some r → px ++ qx = xs → py ++ qy = ys →
              (Op.eqFields D xs.toArray ys.toArray fl).run P w = .ok r w := by
            intro fl
            induction fl with
            | nil =>
              intro off kk px py hk _ _ qx qy r hq _ _
              simp only [flatFs, Option.some.injEq] at hk
              subst hk
              match qx, qy, hq with
              | [], [], hq => simp [flatEq] at hq; subst hq; simp [Op.eqFields]
            | cons f fl ih =>
              intro off kk px py hk hpx hpy qx qy r hq hx hy
              simp only [flatFs] at hk
              cases hft : flatT P d f.type with
              | none => simp [hft] at hk
              | some kf =>
                simp only [hft] at hk
                split at hk
                · rename_i hno
                  cases hfr : flatFs (flatT P d) fl (off + kf.length) with
                  | none => simp [hfr] at hk
                  | some kr =>
                    simp only [hfr, Option.some.injEq] at hk
                    subst hk
                    obtain ⟨hql, hqr⟩ := flatEq_length hq
                    simp only [List.length_append] at hql hqr
                    have ex : qx = qx.take kf.length ++ qx.drop kf.length := (List.take_append_drop _ _).symm
                    have ey : qy = qy.take kf.length ++ qy.drop kf.length := (List.take_append_drop _ _).symm
                    rw [ex, ey] at hq
                    obtain ⟨p, q, hp, hq', e⟩ := flatEq_split hq (by simp; omega) (by simp; omega)
                    obtain ⟨hsf, bf, hbf, h1f⟩ := flatT_shape hft
                    have px1 := run_part_flat hsf hbf h1f xs.toArray f.offset (by rw [hno.2, ← hx]; simp; omega) w
                    have py1 := run_part_flat hsf hbf h1f ys.toArray f.offset (by rw [hno.2, ← hy]; simp; omega) w
                    have sx : (xs.drop f.offset).take kf.length = qx.take kf.length := by rw [hno.2, ← hx, ← hpx]; simp
                    have sy : (ys.drop f.offset).take kf.length = qy.take kf.length := by rw [hno.2, ← hy, ← hpy]; simp
                    simp only [sx, sy] at px1 py1
                    have ihf := equalIn_flat d f.type kf hft D (by omega) bf hbf _ _ p hp w
                    have ihr := ih (off + kf.length) kr (px ++ qx.take kf.length) (py ++ qy.take kf.length) hfr (by simp; omega) (by simp; omega) _ _ q hq' (by rw [← hx]; simp) (by rw [← hy]; simp)
                    simp only [Op.eqFields, if_pos hno.1, Sem.run_bind, px1, py1, Result.andThen_ok, ihf, Sem.run_ite]
                    subst e
                    cases p
                    · simp
                    · simp [ihr]
                · cases hk
          exact key fs.toList 0 _ [] [] hf rfl rfl xs ys r hr (by simp) (by simp)
        · cases h
      · cases h
    · rename_i l e n hu hs
      obtain rfl := hbw true (by simp [isAgg, run_underlying hu])
      split at h
      · rename_i ke hf
        split at h
        · rename_i h2
          cases h
          obtain ⟨hse, be, hbe, h1e⟩ := flatT_shape hf
          simp only [ofCells, if_true, Op.equalIn, Sem.run_bind, run_underlying hu, Result.andThen_ok, run_sizeT hse]
          rw [Std.Legacy.Range.forIn_eq_forIn_range']
          have hsz : ([0:l] : Std.Legacy.Range).size = l := by simp [Std.Legacy.Range.size]
          rw [hsz]
          have key : ∀ (m i : Nat), i + m = l → ∀ (px py qx qy : List Value) (r : Bool), px.length = i * ke.length → py.length = i * ke.length → flatEq (List.replicate m ke).flatten qx qy = some r → px ++ qx = xs → py ++ qy = ys →
              Result.andThen ((forIn (List.range' i m 1) ((none, ()) : Option Bool × Unit) fun i _ => (do
                let __do_lift ← part e xs.toArray (i * ke.length)
                let __do_lift_1 ← part e ys.toArray (i * ke.length)
                let __do_lift ← Op.equalIn D e __do_lift __do_lift_1
                if (!__do_lift) = true then Pure.pure (ForInStep.done (some false, ())) else Pure.pure (ForInStep.yield (none, ())) : Sem (ForInStep (Option Bool × Unit)))).run P w) (fun a w' => (match a.fst with | some r => (Pure.pure r : Sem Bool) | none => Pure.pure true).run P w') = .ok r w := by
            intro m
            induction m with
            | zero =>
              intro i hi px py qx qy r _ _ hq _ _
              match qx, qy, hq with
              | [], [], hq => simp [flatEq] at hq; subst hq; simp
            | succ m ih =>
              intro i hi px py qx qy r hpx hpy hq hx hy
              rw [List.replicate_succ, List.flatten_cons] at hq
              obtain ⟨hql, hqr⟩ := flatEq_length hq
              simp only [List.length_append] at hql hqr
              have ex : qx = qx.take ke.length ++ qx.drop ke.length := (List.take_append_drop _ _).symm
              have ey : qy = qy.take ke.length ++ qy.drop ke.length := (List.take_append_drop _ _).symm
              rw [ex, ey] at hq
              obtain ⟨p, q, hp, hq', e'⟩ := flatEq_split hq (by simp; omega) (by simp; omega)
              have px1 := run_part_flat hse hbe h1e xs.toArray (i * ke.length) (by rw [← hx]; simp; omega) w
              have py1 := run_part_flat hse hbe h1e ys.toArray (i * ke.length) (by rw [← hy]; simp; omega) w
              have sx : (xs.drop (i * ke.length)).take ke.length = qx.take ke.length := by rw [← hx, ← hpx]; simp
              have sy : (ys.drop (i * ke.length)).take ke.length = qy.take ke.length := by rw [← hy, ← hpy]; simp
              simp only [sx, sy] at px1 py1
              have ihf := equalIn_flat d e ke hf D (by omega) be hbe _ _ p hp w
              have ihr := ih (i + 1) (by omega) (px ++ qx.take ke.length) (py ++ qy.take ke.length) _ _ q (by rw [Nat.add_mul]; simp; omega) (by rw [Nat.add_mul]; simp; omega) hq' (by rw [← hx]; simp) (by rw [← hy]; simp)
              simp only [List.range'_succ, List.forIn_cons, Sem.run_bind, px1, py1, Result.andThen_ok, ihf, Sem.run_ite]
              subst e'
              cases p
              · simp
              · simpa using ihr
          have := key l 0 (by omega) [] [] xs ys r (by simp) (by simp) hr (by simp) (by simp)
          simp at this ⊢
          refine Eq.trans (congrArg _ (funext fun a => funext fun w' => ?_)) this
          rcases a with ⟨_ | _, _⟩ <;> rfl
        · cases h
      · cases h
    · cases h

end
end Go.Ax
