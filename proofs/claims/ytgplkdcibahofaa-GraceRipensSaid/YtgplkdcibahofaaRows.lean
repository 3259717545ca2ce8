/-
  No cell of these rows narrows 'for every input' (looked for: loops, veiled, ifaces, maps, wideKeys, modest, calm, conditions, laid).
  DERIVED. THE GIVEN ROWS OF THIS SEAT. 2 by the template 'for every input the law returns true; each argument reads behind the call as it read before'; 0 by the template 'total and deterministic' (their statements: YtgplkdcibahofaaTotals.lean).
  GIVEN WITH THE SEED: the statements are not yours to turn. If you find one false, say at which input.
  Laid BY PROGRAM, IN A SANDBOX (cutbox-rows.mjs): the forced cells as the released guide's own fill.sh prints them over the translation a7a53311ef1998d8… (all of the seat's roots in one cut). By AI agents, Wed Nov 11 2026. No macro, syntax, notation, axiom, sorry.
-/
import Derived.Test.YtgplkdcibahofaaChecked
import GoSem.Claim
import GoSem.ClaimJoined
import GoSem.ClaimMapViews
import Derived.JoinedTies
import Derived.KernelRfl
namespace Go.Proofs.Ytgplkdcibahofaa
/- THE CELL 'sum', in the pinned program and in every row, IS THE sha256 OF THE DUMP (.gsa) THAT YtgplkdcibahofaaProg.lean LOADS. Nothing in Lean hashes anything: it is a label: what it is worth is what the hold of that sum in a sandbox is worth. -/
noncomputable def Try.pinned : Pinned := { name := "ytgplkdcibahofaa", sum := "a7a53311ef1998d86c9e174cb5cc5ffe7a8d3dd139d5e9e5f4b27c3daa0cb900", checked := Try.checked }
namespace Rows
def none {H : Type} : Left H := { results := [], args := [] }

/-- 'tattlelaw09.GraceRipens': WHATEVER THE INPUT: true; the input reads as it did. -/
def graceRipensSpec : ChangeSpec := { name := "graceRipens", fn := fun _ => fun
  | [d1, d2] => { results := [.lit (.bool true)], args := [d1, d2] }
  | _ => none }
def graceRipensRow : OpenClaim := { program := "ytgplkdcibahofaa", sum := "a7a53311ef1998d86c9e174cb5cc5ffe7a8d3dd139d5e9e5f4b27c3daa0cb900", func := "tattle/tattlelaw09.GraceRipens", spec := "graceRipens", inPlace := ["slices.overlaps[int]"], unfollowed := true, recurses := true, apart := false }
def GraceRipensSaid : Prop := graceRipensRow.holds Try.pinned (OpenSpec.ofChange graceRipensSpec)

/-- ITS FALSE NEIGHBOUR: 'it returns false'. Refute it at one input. -/
def graceRipensWrong : ChangeSpec := { name := "graceRipens", fn := fun _ => fun
  | [d1, d2] => { results := [.lit (.bool false)], args := [d1, d2] }
  | _ => none }
def GraceRipensWrongFalsely : Prop := graceRipensRow.holds Try.pinned (OpenSpec.ofChange graceRipensWrong)

/-- 'tattlelaw09.GraceTells': WHATEVER THE INPUT: true; the input reads as it did. -/
def graceTellsSpec : ChangeSpec := { name := "graceTells", fn := fun _ => fun
  | [d] => { results := [.lit (.bool true)], args := [d] }
  | _ => none }
def graceTellsRow : OpenClaim := { program := "ytgplkdcibahofaa", sum := "a7a53311ef1998d86c9e174cb5cc5ffe7a8d3dd139d5e9e5f4b27c3daa0cb900", func := "tattle/tattlelaw09.GraceTells", spec := "graceTells", inPlace := ["slices.overlaps[int]"], unfollowed := true, recurses := true, apart := false }
def GraceTellsSaid : Prop := graceTellsRow.holds Try.pinned (OpenSpec.ofChange graceTellsSpec)

/-- ITS FALSE NEIGHBOUR: 'it returns false'. Refute it at one input. -/
def graceTellsWrong : ChangeSpec := { name := "graceTells", fn := fun _ => fun
  | [d] => { results := [.lit (.bool false)], args := [d] }
  | _ => none }
def GraceTellsWrongFalsely : Prop := graceTellsRow.holds Try.pinned (OpenSpec.ofChange graceTellsWrong)

/- THE SECOND FORM. 'bulk': how many values and letters a reading holds, each counted each time it is reached (what is shared counts as often as it is met; a slice's spare places count too). A statement '..UptoSaid' is the law's where the arguments, and the package variables that the reading takes, are together of bulk at most 1048576: NARROWER than '..Said'. Prove '..Said' where nothing that the law and all that it calls make is longer than what came in: it says more and counts as full. Else prove '..UptoSaid'. A law counts once. -/
mutual
def uptoBulk {H : Type} : DataW H → Nat
  | .lit (.string bytes) => bytes.length + 1
  | .lit _ => 1
  | .nil => 1
  | .ptr d => uptoBulk d + 1
  | .slice elems spare => uptoBulkAll elems + uptoBulkAll spare + 1
  | .agg parts => uptoBulkAll parts + 1
  | .iface _ d => uptoBulk d + 1
  | .map entries => uptoBulkEntries entries + 1
  | .held _ => 1
def uptoBulkAll {H : Type} : List (DataW H) → Nat
  | [] => 0
  | d :: r => uptoBulk d + uptoBulkAll r
def uptoBulkEntries {H : Type} : List (Lit × DataW H) → Nat
  | [] => 0
  | x :: r => uptoBulkEntry x + uptoBulkEntries r
def uptoBulkEntry {H : Type} : Lit × DataW H → Nat
  | (.string bytes, d) => bytes.length + uptoBulk d + 1
  | (_, d) => uptoBulk d + 1
 end
def uptoSmall : (H : Type) → List (DataW H) → Bool := fun _ ds => decide (uptoBulkAll ds ≤ 1048576)
def OpenSpec.upto (s : _root_.Go.ChangeSpec) : _root_.Go.OpenSpec := { _root_.Go.OpenSpec.ofChange s with cond := some uptoSmall }

/-- 'tattlelaw09.GraceRipens', WHERE WHAT IT READS IS OF BULK AT MOST 1048576: true; the input reads as it did. -/
def graceRipensUptoRow : OpenClaim := { program := "ytgplkdcibahofaa", sum := "a7a53311ef1998d86c9e174cb5cc5ffe7a8d3dd139d5e9e5f4b27c3daa0cb900", func := "tattle/tattlelaw09.GraceRipens", spec := "graceRipens", inPlace := ["slices.overlaps[int]"], unfollowed := true, recurses := true, apart := false, narrowed := true }
def GraceRipensUptoSaid : Prop := graceRipensUptoRow.holds Try.pinned (OpenSpec.upto graceRipensSpec)

/-- 'tattlelaw09.GraceTells', WHERE WHAT IT READS IS OF BULK AT MOST 1048576: true; the input reads as it did. -/
def graceTellsUptoRow : OpenClaim := { program := "ytgplkdcibahofaa", sum := "a7a53311ef1998d86c9e174cb5cc5ffe7a8d3dd139d5e9e5f4b27c3daa0cb900", func := "tattle/tattlelaw09.GraceTells", spec := "graceTells", inPlace := ["slices.overlaps[int]"], unfollowed := true, recurses := true, apart := false, narrowed := true }
def GraceTellsUptoSaid : Prop := graceTellsUptoRow.holds Try.pinned (OpenSpec.upto graceTellsSpec)

end Rows
end Go.Proofs.Ytgplkdcibahofaa
