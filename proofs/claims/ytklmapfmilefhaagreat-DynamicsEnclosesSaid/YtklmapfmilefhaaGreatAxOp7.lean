/-
  AX, PART 10: append and copy.
-/
import Derived.Test.YtklmapfmilefhaaGreatAxOp6
set_option linter.unusedSimpArgs false
set_option linter.unusedVariables false
set_option linter.unusedSectionVars false
namespace Go.Ax
variable {P : Program}

/-- A block gets a new name, its cells overwritten (an append in place). -/
theorem R.moved {φ : Phi} {σ : AHeap} {w : World} (h : R P φ σ w) {i b : Nat} {k : Option Nat} {obj : AObj} (hi : φ i = .live b 0 k) (hg : σ.get i = some obj) (hown : obj.own = true)
    {cs : List Value} {cs' : Array Value} (hr : ∀ (j : Nat) (v : Value), cs[j]? = some v → ∃ v' : Value, cs'[j]? = some v' ∧ VRel φ v v') (h1 : ∀ v ∈ cs, v.oneCell' = true) {c : Array Value}
    (hb : w.heap[b]? = some (.cells c obj.elem (0, 0))) (hsz : cs'.size = c.size) (hk : ∀ n, k = some n → c.size = n * P.cellsOf obj.elem) :
    Post P φ σ w ((φ.set i (.dead none)).set σ.size (.live b 0 k)) ((σ.kill i).push ⟨cs, obj.elem, true⟩) (w.setRow b cs') := by
  have hil : i < σ.size := h.id_lt (by rw [hi]; simp)
  have hab : φ σ.size = .absent := h.bnd _ (Nat.le_refl _)
  have hle : Le φ ((φ.set i (.dead none)).set σ.size (.live b 0 k)) := by
    intro j hj
    have hjs : j ≠ σ.size := fun e => hj (e ▸ hab)
    by_cases hji : j = i
    · exact .inr ⟨by rw [hji] at hjs; simp [Phi.set, hjs, hji], fun x => by rw [hji, hi]; simp⟩
    · exact .inl (by simp [Phi.set, hjs, hji])
  have hother : ∀ j b' o' k', φ j = .live b' o' k' → j ≠ i → b' ≠ b := fun j b' o' k' hj hne => Ne.symm (h.excl i j b 0 k b' o' k' obj hi hj hg hown (Ne.symm hne))
  have hget : ∀ j, ((σ.kill i).push ⟨cs, obj.elem, true⟩).get j = if j = σ.size then some ⟨cs, obj.elem, true⟩ else if j = i then none else σ.get j := by
    intro j
    rw [AHeap.get_push, AHeap.size_kill, AHeap.get_kill]
  have hphi : ∀ j b' o' k', ((φ.set i (.dead none)).set σ.size (.live b 0 k)) j = .live b' o' k' → (j = σ.size ∧ b' = b ∧ o' = 0 ∧ k' = k) ∨ (j ≠ σ.size ∧ j ≠ i ∧ φ j = .live b' o' k') := by
    intro j b' o' k' hj
    by_cases hjs : j = σ.size
    · simp only [Phi.set, hjs, if_true, St.live.injEq] at hj
      exact .inl ⟨hjs, hj.1.symm, hj.2.1.symm, hj.2.2.symm⟩
    · by_cases hji : j = i
      · simp [Phi.set, hjs, hji] at hj
        rw [if_neg (by omega)] at hj
        cases hj
      · simp only [Phi.set, hjs, hji, if_false] at hj
        exact .inr ⟨hjs, hji, hj⟩
  refine ⟨by rw [AHeap.size_push, AHeap.size_kill]; omega, hle, ?_, ⟨?_, ?_, ?_, ?_⟩, ?_, ?_, ?_, by simp, rfl, rfl, rfl⟩
  · intro j hj ha
    have hjs : j ≠ σ.size := by omega
    have hji : j ≠ i := fun e => by rw [e, hi] at ha; cases ha
    exact ⟨by simp [Phi.set, hjs, hji, ha], by rw [hget]; simp [hjs, hji]⟩
  · intro j hj
    rw [AHeap.size_push, AHeap.size_kill] at hj
    have hjs : j ≠ σ.size := by omega
    have hji : j ≠ i := by omega
    simp only [Phi.set, hjs, hji, if_false]
    exact h.bnd j (by omega)
  · intro j p hj
    rw [hget]
    by_cases hjs : j = σ.size
    · subst hjs; simp [Phi.set] at hj
    · by_cases hji : j = i
      · simp [hjs, hji]; omega
      · simp only [Phi.set, hjs, hji, if_false] at hj
        simp [hjs, hji, h.dead j p hj]
  · intro j b' o' k' hj
    rcases hphi j b' o' k' hj with ⟨rfl, rfl, rfl, rfl⟩ | ⟨hjs, hji, hj'⟩
    · refine ⟨⟨cs, obj.elem, true⟩, cs', obj.elem, (0, 0), by rw [hget]; simp, setRow_heap w b' c cs' _ (0, 0) hb, ?_, fun _ => ⟨rfl, rfl, rfl, fun n hn => by rw [hsz]; exact hk n hn⟩⟩
      intro j' v hj'
      obtain ⟨v', hv', hrel⟩ := hr j' v hj'
      exact ⟨h1 v (List.mem_of_getElem? hj'), v', by rw [Nat.zero_add]; exact hv', hrel.mono hle⟩
    · obtain ⟨obj2, c2, e2, fr2, hg2, hb2, hcells2, hall2⟩ := h.live j b' o' k' hj'
      refine ⟨obj2, c2, e2, fr2, by rw [hget]; simp [hjs, hji, hg2], by rw [setRow_get w b cs' b' (hother j b' o' k' hj' hji)]; exact hb2, ?_, hall2⟩
      intro j' v hj''
      obtain ⟨ho, v', hv', hrel⟩ := hcells2 j' v hj''
      exact ⟨ho, v', hv', hrel.mono hle⟩
  · intro j l b1 o1 k1 b2 o2 k2 ob hj hl hgj hoj hne
    rw [hget] at hgj
    rcases hphi j b1 o1 k1 hj with ⟨rfl, rfl, rfl, rfl⟩ | ⟨hjs, hji, hj'⟩
    · rcases hphi l b2 o2 k2 hl with ⟨rfl, rfl, rfl, rfl⟩ | ⟨hls, hli, hl'⟩
      · exact absurd rfl hne
      · exact Ne.symm (hother l b2 o2 k2 hl' hli)
    · rcases hphi l b2 o2 k2 hl with ⟨rfl, rfl, rfl, rfl⟩ | ⟨hls, hli, hl'⟩
      · exact hother j b1 o1 k1 hj' hji
      · simp only [hjs, hji, if_false] at hgj
        exact h.excl j l b1 o1 k1 b2 o2 k2 ob hj' hl' hgj hoj hne
  · rintro b' ⟨j, o', k', ob, hj, hgj, hoj⟩
    rw [hget] at hgj
    rcases hphi j b' o' k' hj with ⟨rfl, rfl, rfl, rfl⟩ | ⟨hjs, hji, hj'⟩
    · exact .inl ⟨i, 0, k', obj, hi, hg, hown⟩
    · simp only [hjs, hji, if_false] at hgj
      exact .inl ⟨j, o', k', ob, hj', hgj, hoj⟩
  · intro j b' o' k' h1' h2'
    rcases hphi j b' o' k' h2' with ⟨rfl, rfl, rfl, rfl⟩ | ⟨hjs, hji, hj'⟩
    · exact .inl ⟨i, 0, k', obj, hi, hg, hown⟩
    · rw [h1'] at hj'; cases hj'
  · intro b' hb' hn
    have : b' ≠ b := fun e => hn (e ▸ ⟨i, 0, k, obj, hi, hg, hown⟩)
    exact setRow_get w b cs' b' this

section
variable {φ : Phi} {σ : AHeap} {w : World} {ρ ρ' : Operand → Value} {o : Oper} {v : Value} {σ' : AHeap}

/-- What is to be appended, in the model. -/
theorem appCells_sound (hR : R P φ σ w) {sz : Nat} {x x' : Value} {n : Nat} {new : List Value} (h : appCells σ sz x = some (n, new)) (hx : VRel φ x x') :
    ∃ new', VsRel φ new new' ∧ (∀ v ∈ new, v.oneCell' = true) ∧ new.length = n * sz ∧ (∀ w, (Builtin.lenOf x').run P w = .ok n w) ∧ (∀ w1 : World, w1.heap = w.heap → (Builtin.firstCells sz n x').run P w1 = .ok new'.toArray w1) ∧
      (∀ m, m ≤ n → (Builtin.firstCells sz m x').run P w = .ok (new'.take (m * sz)).toArray w) := by
  unfold appCells at h
  split at h
  · cases h
    cases hx
    exact ⟨[], .nil, by simp, by simp, fun w => rfl, fun w1 _ => by simp [Builtin.firstCells], fun m hm => by simp [Builtin.firstCells]⟩
  · rename_i a n' fl
    by_cases hn0 : n' = 0
    · subst hn0
      simp only [Nat.beq_refl, cond_true, Option.some.injEq, Prod.mk.injEq] at h
      obtain ⟨rfl, rfl⟩ := h
      cases hx with
      | slc h0 hcp hf =>
        exact ⟨[], .nil, by simp, by simp, fun w => rfl, fun w1 _ => by simp [Builtin.firstCells, loadCells, loadCellsFrom], fun m hm => by
          obtain rfl : m = 0 := by omega
          simp [Builtin.firstCells, loadCells, loadCellsFrom]⟩
    rw [beqF hn0] at h
    simp only [cond_false] at h
    cases hc : σ.cells a (n' * sz) with
    | none => simp [hc] at h
    | some cs =>
      simp only [hc, Option.some.injEq, Prod.mk.injEq] at h
      obtain ⟨rfl, rfl⟩ := h
      cases hx with
      | slc h0 hcp hf =>
        rename_i a' c
        have ha := h0.resolve_left hn0
        obtain ⟨cs', hr, hl, h1, hcell⟩ := hR.cells ha hc
        have hl' : cs'.length = n' * sz := hr.length.trans hl
        refine ⟨cs', hr, h1, hl, fun w => rfl, fun w1 hw1 => ?_, fun m hm => ?_⟩
        · have := run_loadCells_list (P := P) w1 a' cs' (fun j v hj => by have := hcell j v hj; simpa [World.cell?, hw1] using this)
          rw [hl'] at this
          simpa [Builtin.firstCells] using this
        · have hle : m * sz ≤ n' * sz := Nat.mul_le_mul_right _ hm
          have := run_loadCells_list (P := P) w a' (cs'.take (m * sz)) (fun j v hj => hcell j v (by
            have hlt := (List.getElem?_eq_some_iff.1 hj).1
            simp at hlt
            rwa [List.getElem?_take_of_lt (by omega)] at hj))
          rw [List.length_take, hl', Nat.min_eq_left hle] at this
          simpa [Builtin.firstCells] using this
  · rename_i s
    rw [Bool.cond_eq_ite] at h
    split at h
    · rename_i hsz
      have hsz := Nat.eq_of_beq_eq_true hsz
      subst hsz
      simp only [Option.some.injEq, Prod.mk.injEq] at h
      obtain ⟨rfl, rfl⟩ := h
      cases hx
      have hsd : s.data.size = s.size := rfl
      refine ⟨strCells s, vs_of_all fun u hu => ?_, fun u hu => ?_, by simp [strCells], fun w => rfl, fun w1 _ => ?_, fun m hm => ?_⟩
      · simp only [strCells, List.mem_map] at hu; obtain ⟨b, _, rfl⟩ := hu; exact .int _ _
      · simp only [strCells, List.mem_map] at hu; obtain ⟨b, _, rfl⟩ := hu; rfl
      · simp only [Builtin.firstCells, Sem.run_pure]
        congr 1
        apply Array.ext'
        have he : (s.extract 0 s.size).data.toList = s.data.toList := by
          rw [ByteArray.data_extract, Array.toList_extract, List.extract_eq_take_drop]
          simp only [Nat.sub_zero, List.drop_zero]
          exact List.take_of_length_le (by simp only [Array.length_toList]; omega)
        rw [Array.toList_map, he]
        rfl
      · simp only [Builtin.firstCells, Sem.run_pure]
        congr 1
        apply Array.ext'
        have he : (s.extract 0 m).data.toList = s.data.toList.take m := by
          rw [ByteArray.data_extract, Array.toList_extract, List.extract_eq_take_drop]
          simp
        rw [Array.toList_map, he, Nat.mul_one]
        simp [strCells, List.map_take]
    · cases h
  · cases h

theorem zeroCells_size (z : Array Value) (n : Nat) : (Builtin.zeroCells z n).size = n * z.size := by simp [Builtin.zeroCells]

/-- The model's append, where the slice has room. -/
theorem run_append_room {t u e : TypeId} {i : TypeInfo} {d : TypeDesc} (ht : P.underlying t = some (.slice e)) (hu : P.underlying u = some d) (hd : (∃ e', d = .slice e') ∨ d = .string) (hi : P.info? e = some i) {ty : TypeId} {base : Option Addr} {sLen sCap n : Nat} {x : Value} {new : List Value}
    (hlen : ∀ w, (Builtin.lenOf x).run P w = .ok n w) (hx : (Builtin.firstCells i.size n x).run P w = .ok new.toArray w) (hroom : sLen + n ≤ sCap) :
    (Builtin.append_ #[t, u] ty #[.slice base sLen sCap, x]).run P w = (match base with
      | some a => ((storeCells (a.add (sLen * i.size)) new).run P w).andThen fun _ w' => .ok (.slice base (sLen + n) sCap) w'
      | none => .ok (.slice base (sLen + n) sCap) w) := by
  have hz2 : ∀ w, (underlying u).run P w = .ok d w := run_underlying hu
  rcases hd with ⟨e', rfl⟩ | rfl <;> (simp [Builtin.append_, run_underlying ht, hz2, run_size hi, hlen, hroom, hx]; cases base <;> simp)

theorem run_append_full {t u e : TypeId} {i : TypeInfo} {d : TypeDesc} {z : Value} (ht : P.underlying t = some (.slice e)) (hu : P.underlying u = some d) (hd : (∃ e', d = .slice e') ∨ d = .string) (hi : P.info? e = some i) (hzv : i.zero = some z) {ty : TypeId} {base : Option Addr} {sLen sCap n : Nat} {x : Value} {old new : List Value}
    (hlen : ∀ w, (Builtin.lenOf x).run P w = .ok n w) (hold : ∀ w1 : World, w1.heap = w.heap → (Builtin.firstCells i.size sLen (.slice base sLen sCap)).run P w1 = .ok old.toArray w1)
    (hx : ∀ w1 : World, w1.heap = w.heap → (Builtin.firstCells i.size n x).run P w1 = .ok new.toArray w1) (hfull : sCap < sLen + n) (h63 : sLen + n ≤ 140737488355328) (hb : (sLen + n) * i.bytes ≤ 140737488355328) :
    (Builtin.append_ #[t, u] ty #[.slice base sLen sCap, x]).run P w =
      .ok (.slice (some ⟨w.heap.size, 0, none⟩) (sLen + n) (grownCap w (sLen + n) sCap e)) (w.drew.alloc (.cells (old.toArray ++ new.toArray ++ Builtin.zeroCells z.cells (grownCap w (sLen + n) sCap e - (sLen + n))) e)) := by
  have hz2 : ∀ w, (underlying u).run P w = .ok d w := run_underlying hu
  have h1 : ¬ (sLen + n ≤ sCap) := by omega
  have h2 : ¬ ((9223372036854775807 : Int) < (sLen : Int) + (n : Int)) := by omega
  have h3 : ¬ (281474976710656 < Builtin.nextslicecap (sLen + n) sCap * i.bytes) := by have := growslice_fits hfull hb; omega
  have hf := hx w.drew rfl
  have hfo := hold w.drew rfl
  rcases hd with ⟨e', rfl⟩ | rfl <;> simp [Builtin.append_, run_underlying ht, hz2, run_size hi, run_info hi, run_zeroV hi hzv, hlen, h1, h2, h3, hf, hfo, Question.forced, newRow, grownCap] <;> (congr 2; apply Array.ext'; simp [List.append_assoc])

theorem grownCap_le (w : World) (need old : Nat) (e : TypeId) : need ≤ grownCap w need old e := by
  show need ≤ need + _
  omega

theorem ok_append {t u e : TypeId} {i : TypeInfo} {d : TypeDesc} {z : Value} {s x : Operand} (ho : o.op = .call { callee := .builtin .append, args := #[s, x], argTypes := #[t, u] }) (ht : P.underlying t = some (.slice e)) (hu : P.underlying u = some d)
    (hd : (∃ e', d = .slice e') ∨ d = .string) (hi : P.info? e = some i) (hzv : i.zero = some z) (hs0 : 0 < i.size) (hzs : z.cells.size = i.size) (hs : VRel φ (ρ s) (ρ' s)) (hx : VRel φ (ρ x) (ρ' x)) (hR : R P φ σ w)
    (h : op1 ρ σ (.append e i.size i.bytes s x) = some (v, σ')) : OpOk P φ σ w ρ' o v σ' := by
  simp only [op1] at h
  have hex : ∀ (v' : Value) (w' : World), (Builtin.append_ #[t, u] o.type #[ρ' s, ρ' x]).run P w = .ok v' w' → (execOp ρ' o).run P w = .ok (.value v') w' := by
    intro v' w' h1
    simp [execOp, ho, resolve, invoke, builtin, h1]
  generalize ρ s = sv at h hs
  generalize ρ' s = sv' at hs hex
  generalize ρ x = xv at h hx
  generalize ρ' x = xv' at hx hex
  unfold appendA at h
  cases hap : appCells σ i.size xv with
  | none => simp [hap] at h
  | some p =>
    obtain ⟨n, new⟩ := p
    simp only [hap] at h
    obtain ⟨new', hnr, hn1, hnl, hlen, hfc, _⟩ := appCells_sound (P := P) hR hap hx
    have hnl' : new'.length = n * i.size := hnr.length.trans hnl
    split at h
    · -- the nil slice
      rename_i l fl
      rw [Bool.cond_eq_ite] at h
      split at h
      · rename_i hl0
        cases hs
        rw [Bool.cond_eq_ite] at h
        split at h
        · rename_i hn0
          have hn0 := Nat.eq_of_beq_eq_true hn0
          subst hn0
          cases h
          exact .pure hR .slcN (hex _ _ (by rw [run_append_room ht hu hd hi hlen (hfc w rfl) (Nat.le_refl 0)]))
        · rename_i hn0
          rw [Bool.cond_eq_ite] at h
          split at h
          · rename_i hb
            cases h
            simp only [Bool.and_eq_true] at hb
            have hb1 := Nat.le_of_ble_eq_true hb.1
            have hb2 := Nat.le_of_ble_eq_true hb.2
            have hnp : 0 < n := by
              rcases Nat.eq_zero_or_pos n with rfl | h0
              · exact absurd rfl hn0
              · exact h0
            have hrun := run_append_full (P := P) (w := w) (ty := o.type) (base := none) (sLen := 0) (sCap := 0) (old := []) ht hu hd hi hzv hlen (fun w1 _ => by simp [Builtin.firstCells]) hfc (by omega) (by omega) (by rw [Nat.zero_add]; exact hb1)
            rw [Nat.zero_add] at hrun
            have hgc := grownCap_le w n 0 e
            have hpost := hR.drew.push hnr hn1 e (([] : List Value).toArray ++ new'.toArray ++ Builtin.zeroCells z.cells (grownCap w n 0 e - n)) (fun j v hj => by
              have hlt := (List.getElem?_eq_some_iff.1 hj).1
              simp only [List.nil_append, Array.append_assoc] 
              rw [Array.getElem?_append_right (by simp), Array.getElem?_append_left (by simpa using hlt)]
              simpa using hj) (some (grownCap w n 0 e)) (by
                intro n' e'; cases e'
                simp [zeroCells_size, hnl', Program.cellsOf, hi, hzs]
                rw [← Nat.add_mul]; congr 1; omega)
            exact ⟨_, _, _, (Post.drew hR).trans hpost, slcNew_rel hgc, .inl (hex _ _ hrun)⟩
          · cases h
      · cases h
    · -- a slice with a block
      rename_i a l fl
      cases hs with
      | slc h0 hcp hf =>
        rename_i a' c
        rw [Bool.cond_eq_ite] at h
        split at h
        · rename_i hn0
          have hn0 := Nat.eq_of_beq_eq_true hn0
          subst hn0
          cases h
          have : new' = [] := List.eq_nil_of_length_eq_zero (by rw [hnl']; omega)
          subst this
          exact .pure hR (.slc h0 hcp hf) (hex _ _ (by rw [run_append_room ht hu hd hi hlen (hfc w rfl) (by omega)]; simp [storeCells]))
        · rename_i hn0
          have hnp : 0 < n := by
            rcases Nat.eq_zero_or_pos n with rfl | h0
            · exact absurd rfl hn0
            · exact h0
          cases hg : σ.get a.block with
          | none => simp [hg] at h
          | some obj =>
            simp only [hg] at h
            rw [Bool.cond_eq_ite] at h
            split at h
            · rename_i hb
              simp only [Bool.and_eq_true] at hb
              obtain ⟨⟨⟨⟨⟨hown, hfl⟩, hel⟩, hb1⟩, hb2⟩, hb3⟩ := hb
              have hfl := Nat.eq_of_beq_eq_true hfl
              have hel := Nat.eq_of_beq_eq_true hel
              have hb1 := Nat.le_of_ble_eq_true hb1
              have hb2 := Nat.le_of_ble_eq_true hb2
              have hb3 := Nat.le_of_ble_eq_true hb3
              obtain ⟨hoff, hfr⟩ := hf hfl
              cases hs' : φ a.block with
              | absent => simp [hs'] at hfr
              | dead p => rw [hR.dead _ _ hs'] at hg; cases hg
              | live b o' k =>
                simp only [hs'] at hfr
                obtain ⟨rfl, rfl, rfl⟩ := hfr
                have hAR : ARel φ a ⟨b, 0, none⟩ := by simp [ARel, hs', hoff]
                obtain ⟨b', k', cA, hs2, ha2, hbk, hk, hcl, hcells, hones⟩ := hR.owned hAR hg hown
                rw [hs'] at hs2
                injection hs2 with e1 e2 e3
                subst e1; subst e3
                rw [hel] at hbk hk
                have hkc := hk c rfl
                have hcs : P.cellsOf e = i.size := by simp [Program.cellsOf, hi]
                rw [hcs] at hkc
                have hbe : (⟨a.block, a.off, none⟩ : Addr).block = a.block := rfl
                by_cases hroom : l + n ≤ c
                · -- the model writes in place
                  have hle : (l + n) * i.size ≤ cA.size := by rw [hkc]; exact Nat.mul_le_mul_right _ hroom
                  rw [Nat.add_mul] at hle
                  have hrunS := run_storeCells_at (P := P) b (l * i.size) e new' 0 cA w hbk (by rw [hnl']; omega) (hnr.one hn1)
                  have hrun := run_append_room (P := P) (w := w) (ty := o.type) (base := some ⟨b, 0, none⟩) ht hu hd hi hlen (hfc w rfl) hroom
                  simp only [add_eq, Nat.zero_add] at hrun
                  rw [hrunS] at hrun
                  simp only [Result.andThen_ok, Nat.add_zero] at hrun
                  rw [Bool.cond_eq_ite] at h
                  split at h
                  · rename_i hin
                    cases h
                    have hin := Nat.le_of_ble_eq_true hin
                    rw [Nat.add_mul] at hin
                    rw [← hel]
                    refine ⟨_, _, _, hR.put (cs := setAt obj.cells (l * i.size) new) hs' hg hown (write_rel hcells hnr (by omega) hcl) (write_one hones hn1) hbk (by simp; omega), ?_, .inl (hex _ _ hrun)⟩
                    exact .slc (.inr hAR) hroom (fun _ => ⟨hoff, by simp [hs']⟩)
                  · cases h
                    rw [← hel] at hbk ⊢
                    have htk : (obj.cells.take (l * i.size)).length = l * i.size := by simp; omega
                    have htk2 : (cA.toList.take (l * i.size)).length = l * i.size := by simp; omega
                    refine ⟨_, _, _, hR.moved (cs := obj.cells.take (l * i.size) ++ new) (cs' := (cA.toList.take (l * i.size) ++ new' ++ cA.toList.drop (l * i.size + new'.length)).toArray) hs' hg hown ?_ ?_ hbk (by simp; omega) (by intro n' e'; cases e'; rw [hel, hcs]; exact hkc), ?_, .inl (hex _ _ hrun)⟩
                    · intro j v hj
                      simp only [List.getElem?_toArray, List.append_assoc]
                      by_cases hjl : j < l * i.size
                      · rw [List.getElem?_append_left (by omega), List.getElem?_take_of_lt hjl] at hj
                        obtain ⟨_, v', hv', hrel⟩ := hcells j v hj
                        refine ⟨v', ?_, hrel⟩
                        rw [List.getElem?_append_left (by omega), List.getElem?_take_of_lt hjl, Array.getElem?_toList]
                        exact hv'
                      · rw [List.getElem?_append_right (by omega), htk] at hj
                        obtain ⟨v', hv', hrel⟩ := hnr.get _ _ hj
                        have hlt := (List.getElem?_eq_some_iff.1 hj).1
                        refine ⟨v', ?_, hrel⟩
                        rw [List.getElem?_append_right (by omega), htk2, List.getElem?_append_left (by omega)]
                        exact hv'
                    · intro v hv
                      rcases List.mem_append.1 hv with hv | hv
                      · exact hones v (List.mem_of_mem_take hv)
                      · exact hn1 v hv
                    · exact slcNew_rel hroom
                · -- the model makes a new block
                  have hin : ¬ ((l + n) * i.size ≤ obj.cells.length) := by
                    intro hin
                    have h1 : (l + n) * i.size ≤ c * i.size := by omega
                    have := Nat.le_of_mul_le_mul_right h1 hs0
                    omega
                  rw [Bool.cond_eq_ite, if_neg (fun hc => hin (Nat.le_of_ble_eq_true hc))] at h
                  cases h
                  have hcl2 : σ.cells a (l * i.size) = some (obj.cells.take (l * i.size)) := by
                    unfold AHeap.cells
                    simp only [hg, hoff, Nat.zero_add, List.drop_zero]
                    rw [Bool.cond_eq_ite, if_pos (Nat.ble_eq_true_of_le hb3)]
                  obtain ⟨old', hor, hol, ho1, hoc⟩ := hR.cells hAR hcl2
                  have hol' : old'.length = l * i.size := hor.length.trans hol
                  have hrun := run_append_full (P := P) (w := w) (ty := o.type) (base := some ⟨b, 0, none⟩) (sLen := l) (sCap := c) (old := old') ht hu hd hi hzv hlen (fun w1 hw1 => by
                    have := run_loadCells_list (P := P) w1 ⟨b, 0, none⟩ old' (fun j v hj => by have := hoc j v hj; simpa [World.cell?, hw1] using this)
                    rw [hol'] at this
                    simpa [Builtin.firstCells] using this) hfc (by omega) hb2 hb1
                  have hgc := grownCap_le w (l + n) c e
                  have hkill := hR.drew.kill hs'
                  have hpost := hkill.rel.push (cs := obj.cells.take (l * i.size) ++ new) (cs' := old' ++ new') (by
                      exact (hor.mono hkill.le).append (hnr.mono hkill.le)) (by
                      intro v hv
                      rcases List.mem_append.1 hv with hv | hv
                      · exact ho1 v hv
                      · exact hn1 v hv) e (old'.toArray ++ new'.toArray ++ Builtin.zeroCells z.cells (grownCap w (l + n) c e - (l + n))) (fun j v hj => by
                        have hlt := (List.getElem?_eq_some_iff.1 hj).1
                        rw [Array.getElem?_append_left (by simpa using hlt)]
                        simpa using hj) (some (grownCap w (l + n) c e)) (by
                      intro n' e'; cases e'
                      simp [zeroCells_size, hnl', hol', Program.cellsOf, hi, hzs]
                      rw [← Nat.add_mul, ← Nat.add_mul]; congr 1; omega)
                  exact ⟨_, _, _, (Post.drew hR).trans (hkill.trans hpost), slcNew_rel hgc, .inl (hex _ _ hrun)⟩
            · cases h
    · cases h

theorem ok_copy {t u e : TypeId} {z : Nat} {d s : Operand} (ho : o.op = .call { callee := .builtin .copy, args := #[d, s], argTypes := #[t, u] }) (ht : P.underlying t = some (.slice e)) (hz : sizeT P e = some z) (hd : VRel φ (ρ d) (ρ' d)) (hs : VRel φ (ρ s) (ρ' s)) (hR : R P φ σ w)
    (h : op1 ρ σ (.copy z d s) = some (v, σ')) : OpOk P φ σ w ρ' o v σ' := by
  simp only [op1] at h
  have hex : ∀ (v' : Value) (w' : World), (Builtin.copy_ #[t, u] o.type #[ρ' d, ρ' s]).run P w = .ok v' w' → (execOp ρ' o).run P w = .ok (.value v') w' := by
    intro v' w' h1
    simp [execOp, ho, resolve, invoke, builtin, h1]
  generalize ρ d = dv at h hd
  generalize ρ' d = dv' at hd hex
  generalize ρ s = sv at h hs
  generalize ρ' s = sv' at hs hex
  unfold copyA at h
  cases hap : appCells σ z sv with
  | none => simp [hap] at h
  | some p =>
    obtain ⟨n, new⟩ := p
    simp only [hap] at h
    obtain ⟨new', hnr, hn1, hnl, hlen, _, hfc⟩ := appCells_sound (P := P) hR hap hs
    split at h
    · cases h
      cases hd
      refine .pure hR (.int _ _) (hex _ _ ?_)
      have h0 := hfc 0 (Nat.zero_le _)
      simp [Builtin.copy_, run_underlying ht, run_sizeT hz, hlen, h0, goInt]
    · rename_i a dl fl
      cases hd with
      | slc h0 hcp hf =>
        rename_i a' c
        have hmn : min n dl ≤ n := Nat.min_le_left _ _
        have hrunc := hfc (min n dl) hmn
        rw [Bool.cond_eq_ite] at h
        split at h
        · rename_i hm0
          have hm0 := Nat.eq_of_beq_eq_true hm0
          cases h
          refine .pure hR (.int _ _) (hex _ _ ?_)
          rw [hm0] at hrunc
          simp [Builtin.copy_, run_underlying ht, run_sizeT hz, hlen, hm0, hrunc, goInt, storeCells]
        · rename_i hm0
          have hdl : dl ≠ 0 := by
            intro e
            subst e
            simp at hm0
          have ha := h0.resolve_left hdl
          cases hg : σ.get a.block with
          | none => simp [hg] at h
          | some obj =>
            simp only [hg] at h
            rw [Bool.cond_eq_ite] at h
            split at h
            · rename_i hb
              cases h
              simp only [Bool.and_eq_true] at hb
              have hb2 := Nat.le_of_ble_eq_true hb.2
              have hle : min n dl * z ≤ n * z := Nat.mul_le_mul_right _ hmn
              have htl : (new.take (min n dl * z)).length = min n dl * z := by simp [hnl, hle]
              obtain ⟨w', hrunS, hpost⟩ := hR.write (P := P) ha hg hb.1 (hnr.take (min n dl * z)) (fun v hv => hn1 v (List.mem_of_mem_take hv)) (by omega)
              refine ⟨_, _, _, hpost, .int _ _, .inl (hex _ _ ?_)⟩
              simp [Builtin.copy_, run_underlying ht, run_sizeT hz, hlen, hrunc, goInt, hrunS]
            · cases h
    · cases h

end
end Go.Ax
