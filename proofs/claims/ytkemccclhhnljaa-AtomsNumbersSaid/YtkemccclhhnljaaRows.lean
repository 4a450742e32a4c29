/-
  No cell of these rows narrows 'for every input' (looked for: loops, veiled, ifaces, maps, wideKeys, modest, calm, conditions, laid).
  DERIVED. THE GIVEN ROWS OF THIS SEAT. 3 by the template 'for every input the law returns true; each argument reads behind the call as it read before'; 0 by the template 'total and deterministic' (their statements: YtkemccclhhnljaaTotals.lean).
  GIVEN WITH THE SEED: the statements are not yours to turn. If you find one false, say at which input.
  Laid BY PROGRAM, IN A SANDBOX (cutbox-rows.mjs): the forced cells as the released guide's own fill.sh prints them over the translation e73eb3daf0539e37… (all of the seat's roots in one cut). By AI agents, Wed Nov 11 2026. No macro, syntax, notation, axiom, sorry.
-/
import Derived.Test.YtkemccclhhnljaaChecked
import GoSem.Claim
import GoSem.ClaimJoined
import GoSem.ClaimMapViews
import Derived.JoinedTies
import Derived.KernelRfl
namespace Go.Proofs.Ytkemccclhhnljaa
/- THE CELL 'sum', in the pinned program and in every row, IS THE sha256 OF THE DUMP (.gsa) THAT YtkemccclhhnljaaProg.lean LOADS. Nothing in Lean hashes anything: it is a label: what it is worth is what the hold of that sum in a sandbox is worth. -/
noncomputable def Try.pinned : Pinned := { name := "ytkemccclhhnljaa", sum := "e73eb3daf0539e3723592f677194d5be2a1bf6266dec2e19d1a0f952cfa1004b", checked := Try.checked }
namespace Rows
def none {H : Type} : Left H := { results := [], args := [] }

/-- 'respelllaw11.AtomsTells': WHATEVER THE INPUT: true; the input reads as it did. -/
def atomsTellsSpec : ChangeSpec := { name := "atomsTells", fn := fun _ => fun
  | [d1, d2, d3] => { results := [.lit (.bool true)], args := [d1, d2, d3] }
  | _ => none }
def atomsTellsRow : OpenClaim := { program := "ytkemccclhhnljaa", sum := "e73eb3daf0539e3723592f677194d5be2a1bf6266dec2e19d1a0f952cfa1004b", func := "respell/respelllaw11.AtomsTells", spec := "atomsTells", unfollowed := true, recurses := true, plainKeys := false, apart := false }
def AtomsTellsSaid : Prop := atomsTellsRow.holds Try.pinned (OpenSpec.ofChange atomsTellsSpec)

/-- ITS FALSE NEIGHBOUR: 'it returns false'. Refute it at one input. -/
def atomsTellsWrong : ChangeSpec := { name := "atomsTells", fn := fun _ => fun
  | [d1, d2, d3] => { results := [.lit (.bool false)], args := [d1, d2, d3] }
  | _ => none }
def AtomsTellsWrongFalsely : Prop := atomsTellsRow.holds Try.pinned (OpenSpec.ofChange atomsTellsWrong)

/-- 'respelllaw11.AtomsLaws': WHATEVER THE INPUT: true; the input reads as it did. -/
def atomsLawsSpec : ChangeSpec := { name := "atomsLaws", fn := fun _ => fun
  | [d1, d2, d3, d4] => { results := [.lit (.bool true)], args := [d1, d2, d3, d4] }
  | _ => none }
def atomsLawsRow : OpenClaim := { program := "ytkemccclhhnljaa", sum := "e73eb3daf0539e3723592f677194d5be2a1bf6266dec2e19d1a0f952cfa1004b", func := "respell/respelllaw11.AtomsLaws", spec := "atomsLaws", unfollowed := true, recurses := true, plainKeys := false, apart := false }
def AtomsLawsSaid : Prop := atomsLawsRow.holds Try.pinned (OpenSpec.ofChange atomsLawsSpec)

/-- ITS FALSE NEIGHBOUR: 'it returns false'. Refute it at one input. -/
def atomsLawsWrong : ChangeSpec := { name := "atomsLaws", fn := fun _ => fun
  | [d1, d2, d3, d4] => { results := [.lit (.bool false)], args := [d1, d2, d3, d4] }
  | _ => none }
def AtomsLawsWrongFalsely : Prop := atomsLawsRow.holds Try.pinned (OpenSpec.ofChange atomsLawsWrong)

/-- 'respelllaw11.AtomsNumbers': WHATEVER THE INPUT: true; the input reads as it did. -/
def atomsNumbersSpec : ChangeSpec := { name := "atomsNumbers", fn := fun _ => fun
  | [] => { results := [.lit (.bool true)], args := [] }
  | _ => none }
def atomsNumbersRow : OpenClaim := { program := "ytkemccclhhnljaa", sum := "e73eb3daf0539e3723592f677194d5be2a1bf6266dec2e19d1a0f952cfa1004b", func := "respell/respelllaw11.AtomsNumbers", spec := "atomsNumbers", unfollowed := true, recurses := true, plainKeys := false, apart := false }
def AtomsNumbersSaid : Prop := atomsNumbersRow.holds Try.pinned (OpenSpec.ofChange atomsNumbersSpec)

/-- ITS FALSE NEIGHBOUR: 'it returns false'. Refute it at one input. -/
def atomsNumbersWrong : ChangeSpec := { name := "atomsNumbers", fn := fun _ => fun
  | [] => { results := [.lit (.bool false)], args := [] }
  | _ => none }
def AtomsNumbersWrongFalsely : Prop := atomsNumbersRow.holds Try.pinned (OpenSpec.ofChange atomsNumbersWrong)

/- THE SECOND FORM. 'bulk': how many values and letters a reading holds, each counted each time it is reached (what is shared counts as often as it is met; a slice's spare places count too). A statement '..UptoSaid' is the law's where the arguments, and the package variables that the reading takes, are together of bulk at most 1048576: NARROWER than '..Said'. Prove '..Said' where nothing that the law and all that it calls make is longer than what came in: it says more and counts as full. Else prove '..UptoSaid'. A law counts once. -/
mutual
def uptoBulk {H : Type} : DataW H → Nat
  | .lit (.string bytes) => bytes.length + 1
  | .lit _ => 1
  | .nil => 1
  | .ptr d => uptoBulk d + 1
  | .slice elems spare => uptoBulkAll elems + uptoBulkAll spare + 1
  | .agg parts => uptoBulkAll parts + 1
  | .iface _ d => uptoBulk d + 1
  | .map entries => uptoBulkEntries entries + 1
  | .held _ => 1
def uptoBulkAll {H : Type} : List (DataW H) → Nat
  | [] => 0
  | d :: r => uptoBulk d + uptoBulkAll r
def uptoBulkEntries {H : Type} : List (Lit × DataW H) → Nat
  | [] => 0
  | x :: r => uptoBulkEntry x + uptoBulkEntries r
def uptoBulkEntry {H : Type} : Lit × DataW H → Nat
  | (.string bytes, d) => bytes.length + uptoBulk d + 1
  | (_, d) => uptoBulk d + 1
 end
def uptoSmall : (H : Type) → List (DataW H) → Bool := fun _ ds => decide (uptoBulkAll ds ≤ 1048576)
def OpenSpec.upto (s : _root_.Go.ChangeSpec) : _root_.Go.OpenSpec := { _root_.Go.OpenSpec.ofChange s with cond := some uptoSmall }

/-- 'respelllaw11.AtomsTells', WHERE WHAT IT READS IS OF BULK AT MOST 1048576: true; the input reads as it did. -/
def atomsTellsUptoRow : OpenClaim := { program := "ytkemccclhhnljaa", sum := "e73eb3daf0539e3723592f677194d5be2a1bf6266dec2e19d1a0f952cfa1004b", func := "respell/respelllaw11.AtomsTells", spec := "atomsTells", unfollowed := true, recurses := true, plainKeys := false, apart := false, narrowed := true }
def AtomsTellsUptoSaid : Prop := atomsTellsUptoRow.holds Try.pinned (OpenSpec.upto atomsTellsSpec)

/-- 'respelllaw11.AtomsLaws', WHERE WHAT IT READS IS OF BULK AT MOST 1048576: true; the input reads as it did. -/
def atomsLawsUptoRow : OpenClaim := { program := "ytkemccclhhnljaa", sum := "e73eb3daf0539e3723592f677194d5be2a1bf6266dec2e19d1a0f952cfa1004b", func := "respell/respelllaw11.AtomsLaws", spec := "atomsLaws", unfollowed := true, recurses := true, plainKeys := false, apart := false, narrowed := true }
def AtomsLawsUptoSaid : Prop := atomsLawsUptoRow.holds Try.pinned (OpenSpec.upto atomsLawsSpec)

/-- 'respelllaw11.AtomsNumbers', WHERE WHAT IT READS IS OF BULK AT MOST 1048576: true; the input reads as it did. -/
def atomsNumbersUptoRow : OpenClaim := { program := "ytkemccclhhnljaa", sum := "e73eb3daf0539e3723592f677194d5be2a1bf6266dec2e19d1a0f952cfa1004b", func := "respell/respelllaw11.AtomsNumbers", spec := "atomsNumbers", unfollowed := true, recurses := true, plainKeys := false, apart := false, narrowed := true }
def AtomsNumbersUptoSaid : Prop := atomsNumbersUptoRow.holds Try.pinned (OpenSpec.upto atomsNumbersSpec)

end Rows
end Go.Proofs.Ytkemccclhhnljaa
