/-
  No cell of these rows narrows 'for every input' (looked for: loops, veiled, ifaces, maps, wideKeys, modest, calm, conditions, laid).
  DERIVED. THE GIVEN ROWS OF THIS SEAT. 2 by the template 'for every input the law returns true; each argument reads behind the call as it read before'; 0 by the template 'total and deterministic' (their statements: YtklmapfmilefhaaGreatTotals.lean).
  GIVEN WITH THE SEED: the statements are not yours to turn. If you find one false, say at which input.
  Laid BY PROGRAM, IN A SANDBOX (cutbox-rows.mjs): the forced cells as the released guide's own fill.sh prints them over the translation 8a5bd18c292c4c4d… (all of the seat's roots in one cut). By AI agents, Wed Nov 11 2026. No macro, syntax, notation, axiom, sorry.
-/
import Derived.Test.YtklmapfmilefhaaGreatChecked
import GoSem.Claim
import GoSem.ClaimJoined
import GoSem.ClaimMapViews
import Derived.JoinedTies
import Derived.KernelRfl
namespace Go.Proofs.YtklmapfmilefhaaGreat
/- THE CELL 'sum', in the pinned program and in every row, IS THE sha256 OF THE DUMP (.gsa) THAT YtklmapfmilefhaaGreatProg.lean LOADS. Nothing in Lean hashes anything: it is a label: what it is worth is what the hold of that sum in a sandbox is worth. -/
noncomputable def Tryz.pinned : Pinned := { name := "ytklmapfmilefhaagreat", sum := "8a5bd18c292c4c4d0cdae5286343fb43067da02eb84b38ac441269080e3a8d9d", checked := Tryz.checked }
namespace Rows
def none {H : Type} : Left H := { results := [], args := [] }

/-- 'armplanlaw40.DynamicsEncloses': WHATEVER THE INPUT: true; the input reads as it did. -/
def dynamicsEnclosesSpec : ChangeSpec := { name := "dynamicsEncloses", fn := fun _ => fun
  | [d1, d2, d3, d4, d5, d6, d7, d8] => { results := [.lit (.bool true)], args := [d1, d2, d3, d4, d5, d6, d7, d8] }
  | _ => none }
def dynamicsEnclosesRow : OpenClaim := { program := "ytklmapfmilefhaagreat", sum := "8a5bd18c292c4c4d0cdae5286343fb43067da02eb84b38ac441269080e3a8d9d", func := "armplan/armplanlaw40.DynamicsEncloses", spec := "dynamicsEncloses", unfollowed := true, recurses := true, apart := false }
def DynamicsEnclosesSaid : Prop := dynamicsEnclosesRow.holds Tryz.pinned (OpenSpec.ofChange dynamicsEnclosesSpec)

/-- ITS FALSE NEIGHBOUR: 'it returns false'. Refute it at one input. -/
def dynamicsEnclosesWrong : ChangeSpec := { name := "dynamicsEncloses", fn := fun _ => fun
  | [d1, d2, d3, d4, d5, d6, d7, d8] => { results := [.lit (.bool false)], args := [d1, d2, d3, d4, d5, d6, d7, d8] }
  | _ => none }
def DynamicsEnclosesWrongFalsely : Prop := dynamicsEnclosesRow.holds Tryz.pinned (OpenSpec.ofChange dynamicsEnclosesWrong)

/-- 'armplanlaw40.DynamicsMonotone': WHATEVER THE INPUT: true; the input reads as it did. -/
def dynamicsMonotoneSpec : ChangeSpec := { name := "dynamicsMonotone", fn := fun _ => fun
  | [d1, d2, d3, d4, d5, d6, d7, d8, d9] => { results := [.lit (.bool true)], args := [d1, d2, d3, d4, d5, d6, d7, d8, d9] }
  | _ => none }
def dynamicsMonotoneRow : OpenClaim := { program := "ytklmapfmilefhaagreat", sum := "8a5bd18c292c4c4d0cdae5286343fb43067da02eb84b38ac441269080e3a8d9d", func := "armplan/armplanlaw40.DynamicsMonotone", spec := "dynamicsMonotone", unfollowed := true, recurses := true, apart := false }
def DynamicsMonotoneSaid : Prop := dynamicsMonotoneRow.holds Tryz.pinned (OpenSpec.ofChange dynamicsMonotoneSpec)

/-- ITS FALSE NEIGHBOUR: 'it returns false'. Refute it at one input. -/
def dynamicsMonotoneWrong : ChangeSpec := { name := "dynamicsMonotone", fn := fun _ => fun
  | [d1, d2, d3, d4, d5, d6, d7, d8, d9] => { results := [.lit (.bool false)], args := [d1, d2, d3, d4, d5, d6, d7, d8, d9] }
  | _ => none }
def DynamicsMonotoneWrongFalsely : Prop := dynamicsMonotoneRow.holds Tryz.pinned (OpenSpec.ofChange dynamicsMonotoneWrong)

/- THE SECOND FORM. 'bulk': how many values and letters a reading holds, each counted each time it is reached (what is shared counts as often as it is met; a slice's spare places count too). A statement '..UptoSaid' is the law's where the arguments, and the package variables that the reading takes, are together of bulk at most 1048576: NARROWER than '..Said'. Prove '..Said' where nothing that the law and all that it calls make is longer than what came in: it says more and counts as full. Else prove '..UptoSaid'. A law counts once. -/
mutual
def uptoBulk {H : Type} : DataW H → Nat
  | .lit (.string bytes) => bytes.length + 1
  | .lit _ => 1
  | .nil => 1
  | .ptr d => uptoBulk d + 1
  | .slice elems spare => uptoBulkAll elems + uptoBulkAll spare + 1
  | .agg parts => uptoBulkAll parts + 1
  | .iface _ d => uptoBulk d + 1
  | .map entries => uptoBulkEntries entries + 1
  | .held _ => 1
def uptoBulkAll {H : Type} : List (DataW H) → Nat
  | [] => 0
  | d :: r => uptoBulk d + uptoBulkAll r
def uptoBulkEntries {H : Type} : List (Lit × DataW H) → Nat
  | [] => 0
  | x :: r => uptoBulkEntry x + uptoBulkEntries r
def uptoBulkEntry {H : Type} : Lit × DataW H → Nat
  | (.string bytes, d) => bytes.length + uptoBulk d + 1
  | (_, d) => uptoBulk d + 1
 end
def uptoSmall : (H : Type) → List (DataW H) → Bool := fun _ ds => decide (uptoBulkAll ds ≤ 1048576)
def OpenSpec.upto (s : _root_.Go.ChangeSpec) : _root_.Go.OpenSpec := { _root_.Go.OpenSpec.ofChange s with cond := some uptoSmall }

/-- 'armplanlaw40.DynamicsEncloses', WHERE WHAT IT READS IS OF BULK AT MOST 1048576: true; the input reads as it did. -/
def dynamicsEnclosesUptoRow : OpenClaim := { program := "ytklmapfmilefhaagreat", sum := "8a5bd18c292c4c4d0cdae5286343fb43067da02eb84b38ac441269080e3a8d9d", func := "armplan/armplanlaw40.DynamicsEncloses", spec := "dynamicsEncloses", unfollowed := true, recurses := true, apart := false, narrowed := true }
def DynamicsEnclosesUptoSaid : Prop := dynamicsEnclosesUptoRow.holds Tryz.pinned (OpenSpec.upto dynamicsEnclosesSpec)

/-- 'armplanlaw40.DynamicsMonotone', WHERE WHAT IT READS IS OF BULK AT MOST 1048576: true; the input reads as it did. -/
def dynamicsMonotoneUptoRow : OpenClaim := { program := "ytklmapfmilefhaagreat", sum := "8a5bd18c292c4c4d0cdae5286343fb43067da02eb84b38ac441269080e3a8d9d", func := "armplan/armplanlaw40.DynamicsMonotone", spec := "dynamicsMonotone", unfollowed := true, recurses := true, apart := false, narrowed := true }
def DynamicsMonotoneUptoSaid : Prop := dynamicsMonotoneUptoRow.holds Tryz.pinned (OpenSpec.upto dynamicsMonotoneSpec)

end Rows
end Go.Proofs.YtklmapfmilefhaaGreat
