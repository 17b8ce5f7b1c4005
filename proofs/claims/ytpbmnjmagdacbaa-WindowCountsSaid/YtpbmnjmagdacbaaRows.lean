/-
  NARROWER THAN 'FOR EVERY INPUT', by the rows' own cells (each row's printed sentence says how): WindowBrings: loops · WindowParts: loops · WindowCounts: loops.
  DERIVED. THE GIVEN ROWS OF THIS SEAT. 3 by the template 'for every input the law returns true; each argument reads behind the call as it read before'; 0 by the template 'total and deterministic' (their statements: YtpbmnjmagdacbaaTotals.lean).
  GIVEN WITH THE SEED: the statements are not yours to turn. If you find one false, say at which input.
  Laid BY PROGRAM, IN A SANDBOX (cutbox-rows.mjs): the forced cells as the released guide's own fill.sh prints them over the translation 4791a79914a4c343… (all of the seat's roots in one cut). By AI agents, Wed Nov 11 2026. No macro, syntax, notation, axiom, sorry.
-/
import Derived.Test.YtpbmnjmagdacbaaChecked
import GoSem.Claim
import GoSem.ClaimJoined
import GoSem.ClaimMapViews
import Derived.JoinedTies
import Derived.KernelRfl
namespace Go.Proofs.Ytpbmnjmagdacbaa
/- THE CELL 'sum', in the pinned program and in every row, IS THE sha256 OF THE DUMP (.gsa) THAT YtpbmnjmagdacbaaProg.lean LOADS. Nothing in Lean hashes anything: it is a label: what it is worth is what the hold of that sum in a sandbox is worth. -/
noncomputable def Try.pinned : Pinned := { name := "ytpbmnjmagdacbaa", sum := "4791a79914a4c343c2e8fc4fe2275bf97f35d8c17a87734ac35253e68398c53d", checked := Try.checked }
namespace Rows
def none {H : Type} : Left H := { results := [], args := [] }

/-- 'aqueductlaw20.WindowBrings': WHATEVER THE INPUT: true; the input reads as it did. -/
def windowBringsSpec : ChangeSpec := { name := "windowBrings", fn := fun _ => fun
  | [d1, d2, d3] => { results := [.lit (.bool true)], args := [d1, d2, d3] }
  | _ => none }
def windowBringsRow : OpenClaim := { program := "ytpbmnjmagdacbaa", sum := "4791a79914a4c343c2e8fc4fe2275bf97f35d8c17a87734ac35253e68398c53d", func := "aqueduct/aqueductlaw20.WindowBrings", spec := "windowBrings", unfollowed := true, recurses := true, loops := true, apart := false }
def WindowBringsSaid : Prop := windowBringsRow.holds Try.pinned (OpenSpec.ofChange windowBringsSpec)

/-- ITS FALSE NEIGHBOUR: 'it returns false'. Refute it at one input. -/
def windowBringsWrong : ChangeSpec := { name := "windowBrings", fn := fun _ => fun
  | [d1, d2, d3] => { results := [.lit (.bool false)], args := [d1, d2, d3] }
  | _ => none }
def WindowBringsWrongFalsely : Prop := windowBringsRow.holds Try.pinned (OpenSpec.ofChange windowBringsWrong)

/-- 'aqueductlaw20.WindowParts': WHATEVER THE INPUT: true; the input reads as it did. -/
def windowPartsSpec : ChangeSpec := { name := "windowParts", fn := fun _ => fun
  | [d1, d2] => { results := [.lit (.bool true)], args := [d1, d2] }
  | _ => none }
def windowPartsRow : OpenClaim := { program := "ytpbmnjmagdacbaa", sum := "4791a79914a4c343c2e8fc4fe2275bf97f35d8c17a87734ac35253e68398c53d", func := "aqueduct/aqueductlaw20.WindowParts", spec := "windowParts", unfollowed := true, recurses := true, loops := true, apart := false }
def WindowPartsSaid : Prop := windowPartsRow.holds Try.pinned (OpenSpec.ofChange windowPartsSpec)

/-- ITS FALSE NEIGHBOUR: 'it returns false'. Refute it at one input. -/
def windowPartsWrong : ChangeSpec := { name := "windowParts", fn := fun _ => fun
  | [d1, d2] => { results := [.lit (.bool false)], args := [d1, d2] }
  | _ => none }
def WindowPartsWrongFalsely : Prop := windowPartsRow.holds Try.pinned (OpenSpec.ofChange windowPartsWrong)

/-- 'aqueductlaw20.WindowCounts': WHATEVER THE INPUT: true; the input reads as it did. -/
def windowCountsSpec : ChangeSpec := { name := "windowCounts", fn := fun _ => fun
  | [d1, d2] => { results := [.lit (.bool true)], args := [d1, d2] }
  | _ => none }
def windowCountsRow : OpenClaim := { program := "ytpbmnjmagdacbaa", sum := "4791a79914a4c343c2e8fc4fe2275bf97f35d8c17a87734ac35253e68398c53d", func := "aqueduct/aqueductlaw20.WindowCounts", spec := "windowCounts", unfollowed := true, recurses := true, loops := true, apart := false }
def WindowCountsSaid : Prop := windowCountsRow.holds Try.pinned (OpenSpec.ofChange windowCountsSpec)

/-- ITS FALSE NEIGHBOUR: 'it returns false'. Refute it at one input. -/
def windowCountsWrong : ChangeSpec := { name := "windowCounts", fn := fun _ => fun
  | [d1, d2] => { results := [.lit (.bool false)], args := [d1, d2] }
  | _ => none }
def WindowCountsWrongFalsely : Prop := windowCountsRow.holds Try.pinned (OpenSpec.ofChange windowCountsWrong)

/- THE SECOND FORM. 'bulk': how many values and letters a reading holds, each counted each time it is reached (what is shared counts as often as it is met; a slice's spare places count too). A statement '..UptoSaid' is the law's where the arguments, and the package variables that the reading takes, are together of bulk at most 1048576: NARROWER than '..Said'. Prove '..Said' where nothing that the law and all that it calls make is longer than what came in: it says more and counts as full. Else prove '..UptoSaid'. A law counts once. -/
mutual
def uptoBulk {H : Type} : DataW H → Nat
  | .lit (.string bytes) => bytes.length + 1
  | .lit _ => 1
  | .nil => 1
  | .ptr d => uptoBulk d + 1
  | .slice elems spare => uptoBulkAll elems + uptoBulkAll spare + 1
  | .agg parts => uptoBulkAll parts + 1
  | .iface _ d => uptoBulk d + 1
  | .map entries => uptoBulkEntries entries + 1
  | .held _ => 1
def uptoBulkAll {H : Type} : List (DataW H) → Nat
  | [] => 0
  | d :: r => uptoBulk d + uptoBulkAll r
def uptoBulkEntries {H : Type} : List (Lit × DataW H) → Nat
  | [] => 0
  | x :: r => uptoBulkEntry x + uptoBulkEntries r
def uptoBulkEntry {H : Type} : Lit × DataW H → Nat
  | (.string bytes, d) => bytes.length + uptoBulk d + 1
  | (_, d) => uptoBulk d + 1
 end
def uptoSmall : (H : Type) → List (DataW H) → Bool := fun _ ds => decide (uptoBulkAll ds ≤ 1048576)
def OpenSpec.upto (s : _root_.Go.ChangeSpec) : _root_.Go.OpenSpec := { _root_.Go.OpenSpec.ofChange s with cond := some uptoSmall }

/-- 'aqueductlaw20.WindowBrings', WHERE WHAT IT READS IS OF BULK AT MOST 1048576: true; the input reads as it did. -/
def windowBringsUptoRow : OpenClaim := { program := "ytpbmnjmagdacbaa", sum := "4791a79914a4c343c2e8fc4fe2275bf97f35d8c17a87734ac35253e68398c53d", func := "aqueduct/aqueductlaw20.WindowBrings", spec := "windowBrings", unfollowed := true, recurses := true, loops := true, apart := false, narrowed := true }
def WindowBringsUptoSaid : Prop := windowBringsUptoRow.holds Try.pinned (OpenSpec.upto windowBringsSpec)

/-- 'aqueductlaw20.WindowParts', WHERE WHAT IT READS IS OF BULK AT MOST 1048576: true; the input reads as it did. -/
def windowPartsUptoRow : OpenClaim := { program := "ytpbmnjmagdacbaa", sum := "4791a79914a4c343c2e8fc4fe2275bf97f35d8c17a87734ac35253e68398c53d", func := "aqueduct/aqueductlaw20.WindowParts", spec := "windowParts", unfollowed := true, recurses := true, loops := true, apart := false, narrowed := true }
def WindowPartsUptoSaid : Prop := windowPartsUptoRow.holds Try.pinned (OpenSpec.upto windowPartsSpec)

/-- 'aqueductlaw20.WindowCounts', WHERE WHAT IT READS IS OF BULK AT MOST 1048576: true; the input reads as it did. -/
def windowCountsUptoRow : OpenClaim := { program := "ytpbmnjmagdacbaa", sum := "4791a79914a4c343c2e8fc4fe2275bf97f35d8c17a87734ac35253e68398c53d", func := "aqueduct/aqueductlaw20.WindowCounts", spec := "windowCounts", unfollowed := true, recurses := true, loops := true, apart := false, narrowed := true }
def WindowCountsUptoSaid : Prop := windowCountsUptoRow.holds Try.pinned (OpenSpec.upto windowCountsSpec)

end Rows
end Go.Proofs.Ytpbmnjmagdacbaa
