/-
  AX, PART 14b: regions that draw their order: what is static; restrictions.
-/
import Derived.Test.YtklmapfmilefhaaGreatAxDraw1
set_option linter.unusedSimpArgs false
set_option linter.unusedVariables false
set_option linter.unusedSectionVars false
namespace Go.Ax
variable {P : Program}

/-! ### The masks -/

theorem rev_ind {α : Type} {p : List α → Prop} (nil : p []) (app : ∀ l a, p l → p (l ++ [a])) (l : List α) : p l := by
  have h : ∀ m : List α, p m.reverse := by
    intro m
    induction m with
    | nil => exact nil
    | cons a m ih => rw [List.reverse_cons]; exact app _ _ ih
  have := h l.reverse
  rwa [List.reverse_reverse] at this

theorem masks_append (l : List Oper) (o : Oper) : masks (l ++ [o]) = masks l ++ [o.after.toList.foldl (fun s e => cond (Region.binds .any e) (s ||| (2 ^ e.on ||| (masks l).getD e.on 0)) s) 0] := by
  simp [masks, List.foldl_append]

theorem masks_length : ∀ (l : List Oper), (masks l).length = l.length := by
  intro l
  refine rev_ind (p := fun l => (masks l).length = l.length) rfl (fun l o ih => ?_) l
  rw [masks_append]; simp [ih]

theorem masks_prefix (l m : List Oper) : ∃ r, masks (l ++ m) = masks l ++ r := by
  refine rev_ind (p := fun m => ∃ r, masks (l ++ m) = masks l ++ r) ⟨[], by simp⟩ (fun m o ih => ?_) m
  obtain ⟨r, hr⟩ := ih
  rw [← List.append_assoc, masks_append, hr, List.append_assoc]
  exact ⟨_, rfl⟩

theorem fold_bit (g : Edge → Nat) : ∀ (l : List Edge) (s : Nat) (i : Nat), (l.foldl (fun s e => cond (Region.binds .any e) (s ||| g e) s) s).testBit i = true → s.testBit i = true ∨ ∃ e ∈ l, Region.binds .any e = true ∧ (g e).testBit i = true
  | [], s, i, h => .inl h
  | e :: l, s, i, h => by
    rw [List.foldl_cons] at h
    rcases fold_bit g l _ i h with h1 | ⟨e', he', h1⟩
    · cases hb : Region.binds .any e with
      | false => rw [hb] at h1; exact .inl h1
      | true =>
        rw [hb] at h1
        simp only [cond_true, Nat.testBit_or, Bool.or_eq_true] at h1
        rcases h1 with h1 | h1
        · exact .inl h1
        · exact .inr ⟨e, by simp, hb, h1⟩
    · exact .inr ⟨e', by simp [he'], h1⟩

theorem mask_bit {ops : List Oper} {j : Nat} {o : Oper} (ho : ops[j]? = some o) {i : Nat} (h : ((masks ops).getD j 0).testBit i = true) :
    ∃ e ∈ o.after.toList, Region.binds .any e = true ∧ (i = e.on ∨ (e.on < j ∧ ((masks ops).getD e.on 0).testBit i = true)) := by
  have hlt : j < ops.length := (List.getElem?_eq_some_iff.1 ho).1
  have hsplit : ops = ops.take j ++ [o] ++ ops.drop (j + 1) := by
    have := (List.getElem?_eq_some_iff.1 ho).2
    rw [← this]
    rw [List.append_assoc, List.singleton_append, ← List.drop_eq_getElem_cons hlt, List.take_append_drop]
  have hpre : ∃ r, masks ops = masks (ops.take j) ++ [o.after.toList.foldl (fun s e => cond (Region.binds .any e) (s ||| (2 ^ e.on ||| (masks (ops.take j)).getD e.on 0)) s) 0] ++ r := by
    obtain ⟨r, hr⟩ := masks_prefix (ops.take j ++ [o]) (ops.drop (j + 1))
    rw [← hsplit, masks_append] at hr
    exact ⟨r, hr⟩
  obtain ⟨r, hr⟩ := hpre
  have hlen : (masks (ops.take j)).length = j := by rw [masks_length]; simp; omega
  have hget : (masks ops).getD j 0 = o.after.toList.foldl (fun s e => cond (Region.binds .any e) (s ||| (2 ^ e.on ||| (masks (ops.take j)).getD e.on 0)) s) 0 := by
    rw [hr]
    simp [List.getD, hlen]
  have hlow : ∀ k, k < j → (masks ops).getD k 0 = (masks (ops.take j)).getD k 0 := by
    intro k hk
    rw [hr]
    simp only [List.getD]
    rw [List.append_assoc, List.getElem?_append_left (by omega)]
  rw [hget] at h
  rcases fold_bit (fun e => 2 ^ e.on ||| (masks (ops.take j)).getD e.on 0) _ _ _ h with h1 | ⟨e, he, hb, h1⟩
  · simp at h1
  · refine ⟨e, he, hb, ?_⟩
    simp only [Nat.testBit_or, Bool.or_eq_true] at h1
    rcases h1 with h1 | h1
    · left
      rw [Nat.testBit_two_pow] at h1
      simpa using (of_decide_eq_true (by simpa using h1) : e.on = i).symm
    · right
      by_cases hlt2 : e.on < j
      · exact ⟨hlt2, by rw [hlow _ hlt2]; exact h1⟩
      · simp [List.getD, List.getElem?_eq_none (show (masks (ops.take j)).length ≤ e.on by omega)] at h1

/-- A set that is closed under the edges that bind holds all that comes before. -/
theorem mask_closed {ops : List Oper} {S : Nat → Prop} (hS : ∀ j o, ops[j]? = some o → S j → ∀ e ∈ o.after.toList, Region.binds .any e = true → S e.on) :
    ∀ (j : Nat) (o : Oper), ops[j]? = some o → (∀ e ∈ o.after.toList, Region.binds .any e = true → S e.on) → ∀ i, ((masks ops).getD j 0).testBit i = true → S i := by
  intro j
  induction j using Nat.strongRecOn with
  | _ j ih =>
    intro o ho hd i hi
    obtain ⟨e, he, hb, h⟩ := mask_bit ho hi
    rcases h with rfl | ⟨hlt, h⟩
    · exact hd e he hb
    · have hSe := hd e he hb
      have hjl : j < ops.length := (List.getElem?_eq_some_iff.1 ho).1
      have hoe : ops[e.on]? = some ops[e.on] := List.getElem?_eq_getElem (by omega)
      exact ih e.on hlt _ hoe (fun e' he' hb' => hS e.on _ hoe hSe e' he' hb') i h

/-! ### Restrictions -/

def res (φ : Phi) (n : Nat) : Phi := fun i => if i < n then φ i else .absent

theorem res_le {φ : Phi} {n m : Nat} (h : n ≤ m) : Le (res φ n) (res φ m) := by
  intro i hi
  left
  unfold res at *
  by_cases hin : i < n
  · rw [if_pos hin, if_pos (by omega)]
  · simp [hin] at hi
theorem res_le_self {φ : Phi} {n : Nat} : Le (res φ n) φ := by
  intro i hi
  left
  unfold res at *
  by_cases hin : i < n
  · rw [if_pos hin]
  · simp [hin] at hi
theorem res_mono {φ φ' : Phi} (h : Le φ φ') (n : Nat) : Le (res φ n) (res φ' n) := by
  intro i hi
  unfold res at *
  by_cases hin : i < n
  · simp only [hin, if_true] at hi ⊢
    exact h i hi
  · simp [hin] at hi

/-- What stands in two relations stands in the one, restricted to where the other speaks. -/
def cap (φ φ0 : Phi) : Phi := fun i => match φ0 i with | .absent => .absent | _ => φ i

theorem cap_ne {φ φ0 : Phi} {i : Nat} (h : φ0 i ≠ .absent) : cap φ φ0 i = φ i := by
  unfold cap; cases h0 : φ0 i <;> simp_all

theorem ARel.dom {φ : Phi} {a a' : Addr} (h : ARel φ a a') : φ a.block ≠ .absent := by
  unfold ARel at h
  intro e
  simp [e] at h

theorem ARel.cap {φ φ0 : Phi} {a a' : Addr} (h : ARel φ a a') (h0 : φ0 a.block ≠ .absent) : ARel (cap φ φ0) a a' := by
  unfold ARel at *
  rw [cap_ne h0]; exact h
theorem FlagRel.cap {φ φ0 : Phi} {a a' : Addr} {c : Nat} (h : FlagRel φ a a' c) (h0 : φ0 a.block ≠ .absent) : FlagRel (cap φ φ0) a a' c := by
  unfold FlagRel at *
  rw [cap_ne h0]; exact h
theorem FlagRel.dom {φ : Phi} {a a' : Addr} {c : Nat} (h : FlagRel φ a a' c) : φ a.block ≠ .absent := by
  unfold FlagRel at h
  intro e
  simp [e] at h

mutual
theorem VRel.cap {φ φ0 : Phi} : ∀ {v v' v'' : Value}, VRel φ v v' → VRel φ0 v v'' → VRel (Ax.cap φ φ0) v v'
  | _, _, _, .bool b, _ => .bool b
  | _, _, _, .int k n, _ => .int k n
  | _, _, _, .string s, _ => .string s
  | _, _, _, .ptrN, _ => .ptrN
  | _, _, _, .ptr h, .ptr h0 => .ptr (h.cap h0.dom)
  | _, _, _, .slcN, _ => .slcN
  | _, _, _, .slc h0 hc h1, .slc g0 gc g1 => .slc (by
      rcases h0 with h0 | h0
      · exact .inl h0
      · rcases g0 with g0 | g0
        · exact .inl g0
        · exact .inr (h0.cap g0.dom)) hc (fun e => (h1 e).cap (g1 e).dom)
  | _, _, _, .func f hx hy, .func _ gx gy => .func f (VsRel.cap hx gx) (VsRel.cap hy gy)
  | _, _, _, .nilFunc, _ => .nilFunc
  | _, _, _, .nilIface, _ => .nilIface
  | _, _, _, .iface t h, .iface _ g => .iface t (VRel.cap h g)
  | _, _, _, .agg h1 h, .agg _ g => .agg h1 (VsRel.cap h g)
  | _, _, _, .tuple h, .tuple g => .tuple (VsRel.cap h g)
theorem VsRel.cap {φ φ0 : Phi} : ∀ {l l' l'' : List Value}, VsRel φ l l' → VsRel φ0 l l'' → VsRel (Ax.cap φ φ0) l l'
  | _, _, _, .nil, _ => .nil
  | _, _, _, .cons h hs, .cons g gs => .cons (VRel.cap h g) (VsRel.cap hs gs)
end

theorem cap_le_res {φ φ0 : Phi} {n : Nat} (h : ∀ i, n ≤ i → φ0 i = .absent) : Le (Ax.cap φ φ0) (res φ n) := by
  intro i hi
  left
  unfold Ax.cap res at *
  by_cases hin : i < n
  · simp only [hin, if_true]
    split
    · rename_i he; simp [he] at hi
    · rfl
  · simp [h i (by omega)] at hi

/-! ### A heap with given contents -/

def mkHeap (g : Nat → Option AObj) : Nat → AHeap
  | 0 => ⟨.nil, 0⟩
  | n + 1 => ⟨(mkHeap g n).t.set n (g n), n + 1⟩

theorem mkHeap_size (g : Nat → Option AObj) : ∀ n, (mkHeap g n).size = n
  | 0 => rfl
  | n + 1 => rfl
theorem mkHeap_get (g : Nat → Option AObj) : ∀ n i, (mkHeap g n).get i = if i < n then g i else none
  | 0, i => by simp [mkHeap, AHeap.get, T.get]
  | n + 1, i => by
    have ih := mkHeap_get g n i
    unfold AHeap.get at ih
    simp only [mkHeap, AHeap.get, T.get_set, ih]
    by_cases h : i = n
    · subst h; simp
    · by_cases h2 : i < n
      · simp [h, h2]; omega
      · simp [h, h2]; omega

end Go.Ax
