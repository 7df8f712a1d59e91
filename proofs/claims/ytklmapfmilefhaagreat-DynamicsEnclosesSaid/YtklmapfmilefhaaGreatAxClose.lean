/-
  AX: from a call that keeps all older memory and returns true to what a row asks.
-/
import Derived.Test.YtklmapfmilefhaaGreatAxCode
import Derived.ChangeSame
import Derived.ChangeBears
import Derived.ReadAgain
import Derived.JoinedOf
import Derived.SizedLaws
import Derived.OpenShut
import Derived.RowKit
set_option linter.unusedSimpArgs false
set_option linter.unusedVariables false
set_option linter.unusedSectionVars false
namespace Go.Ax
open Go.ChangeShapes Go.RowKit

structure Kept (W W' : World) : Prop where
  old : ∀ b, b < W.heap.size → W'.heap[b]? = W.heap[b]?
  os : W'.os = W.os
  out : W'.output = W.output

theorem Kept.but {W W' : World} (h : Kept W W') (may : MemPlace → Prop) : W.keptBut W' may := by
  refine ⟨h.os, h.out, fun i hi => ?_⟩
  rw [h.old i hi]
  cases hb : W.heap[i]? with
  | none => rfl
  | some o => cases o <;> simp

theorem Kept.same {W W' : World} (h : Kept W W') {p : MemPlace} (hp : p.block < W.heap.size) : W.sameAt W' p := by
  cases p with
  | cell b off => simp only [MemPlace.block] at hp; simp [World.sameAt, World.cell?, h.old b hp]
  | map b => simp only [MemPlace.block] at hp; simp [World.sameAt, h.old b hp]

theorem Kept.frozen {W W' : World} (h : Kept W W') (a : Addr) (ha : a.block < W.heap.size) : W'.frozen? a = W.frozen? a := by
  simp [World.frozen?, h.old _ ha]

section
variable {H : Type} {enc : TypeId × Value → H} {P : Program}

theorem trodAll_kept {W W' : World} (hk : Kept W W') : ∀ {ts : List TypeId} {vs : List Value} {ds : List (DataW H)} {ps : List MemPlace},
    DataW.TrodAll enc P W 0 (fun _ => true) true ts vs ds ps → (∀ p ∈ ps, p.block < W.heap.size) → DataW.TrodAll enc P W' 0 (fun _ => true) true ts vs ds ps
  | [], [], [], _, h, _ => h
  | _ :: _, _ :: _, _ :: _, _, ⟨p, q, ⟨n, h1⟩, h2, e⟩, hl =>
    ⟨p, q, ⟨n, DataW.trod_carry n _ _ _ h1 (fun x hx => hk.same (hl x (by rw [e]; exact List.mem_append_left _ hx)))⟩, trodAll_kept hk h2 (fun x hx => hl x (by rw [e]; exact List.mem_append_right _ hx)), e⟩

/-- The facts of the program's table of types that reading again needs. -/
structure Types (P : Program) : Prop where
  kids : Kids P (· < P.types.size)
  full : ∀ t e, t < P.types.size → P.underlying t = some (.slice e) → 0 < P.cellsOf e

theorem post_true (T : Types P) {f : Func} {s : ChangeSpec} {apart fresh handsOn again : Bool} {W W' : World} {args : Array Value} {ds gs : List (DataW H)} {before : List MemPlace}
    (hT : ∀ t ∈ f.params.toList, t < P.types.size) (hv : s.vars = []) (hW : DataW.Whole enc P f.params.toList s.vars apart W args.toList ds gs before)
    (hs : s.fn H ds = { results := [.lit (.bool true)], args := ds }) {tb : TypeId} (hr : f.resultTypes = #[tb]) (hb : P.underlying tb = some .bool)
    (hk : Kept W W') : s.post enc P f apart fresh handsOn again W args (.bool true) W' := by
  have hW0 := hW
  have hlt := hW.lt
  obtain ⟨p, q, hA, hV, rfl, hz, hn⟩ := hW
  rw [hv] at hV
  have hgs : gs = [] ∧ q = [] := by
    cases gs with
    | nil => exact ⟨rfl, by simpa [DataW.TrodVars] using hV⟩
    | cons _ _ => simp [DataW.TrodVars] at hV
  obtain ⟨rfl, rfl⟩ := hgs
  simp only [List.append_nil] at hlt hz hn hW0
  have hA1 := trodAll_kept hk hA hlt
  have hargs : ∀ sp : Nat → Bool, (∀ x ∈ p, sp x.block = true) → DataW.TrodAll enc P W' 0 sp true f.params.toList args.toList ds p :=
    fun sp h => DataW.TrodAll.respare T.kids T.full hT hA1 h
  have hvars : ∀ sp : Nat → Bool, DataW.TrodVars enc P W' sp s.vars ([] : List (DataW H)) [] := fun sp => by rw [hv]; simp [DataW.TrodVars]
  have hres : ∀ (b : Nat) (sp : Nat → Bool) (hd : Bool), DataW.TrodAll enc P W' b sp hd f.resultTypes.toList ((Value.bool true).resultList f.resultTypes.size) [.lit (.bool true)] [] := by
    intro b sp hd
    rw [hr]
    exact trodAll_cons_mk (shut_bool hb _) trodAll_mk0
  have hold : ∀ x ∈ p, (fun b => decide (b < W.heap.size)) x.block = true := fun x hx => by simpa using hlt x hx
  refine ⟨ds, [], p, [], p, [], hW0, ?_, ?_, ?_, hk.but _, fun _ => ⟨?_, ?_⟩⟩
  · rw [List.append_nil, hs]; exact hres _ _ _
  · rw [List.append_nil, hs]; exact hargs _ hold
  · rw [List.append_nil, hs]; exact hvars _
  · rw [hr]
    intro j t r hj hj'
    match j, hj, hj' with
    | 0, hj, hj' =>
      simp at hj
      subst hj
      have e : Value.bool true = r := by simpa [Value.resultList] using hj'
      subst e
      exact okWide_bool_mk hb true
    | j + 1, hj, _ => simp at hj
  · refine ⟨_, [], [] ++ p, ⟨[] ++ p, [], trodAll_append (hargs _ (fun _ _ => rfl)) (hres _ _ _), hvars _, by simp, ?_, ?_⟩, fun x hx _ => by simpa using hx⟩
    · intro b off hm
      have hm' : MemPlace.cell b off ∈ p := by simpa using hm
      rw [hk.frozen _ (hlt _ hm')]
      exact hz b off hm'
    · simpa using hn
end

section
variable {P : Program}
theorem Post.kept {φ φ' : Phi} {σ σ' : AHeap} {w w' : World} (h : Post P φ σ w φ' σ' w') (hn : ∀ b, ¬ Owned φ σ b) : Kept w w' :=
  ⟨fun b hb => h.keep b hb (hn b), h.env.1, h.env.2.1⟩
end
end Go.Ax
