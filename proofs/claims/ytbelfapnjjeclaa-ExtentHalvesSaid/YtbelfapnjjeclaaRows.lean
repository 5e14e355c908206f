/-
  No cell of these rows narrows 'for every input' (looked for: loops, veiled, ifaces, maps, wideKeys, modest, calm, conditions, laid).
  DERIVED. THE GIVEN ROWS OF THIS SEAT. 3 by the template 'for every input the law returns true; each argument reads behind the call as it read before'; 0 by the template 'total and deterministic' (their statements: YtbelfapnjjeclaaTotals.lean).
  GIVEN WITH THE SEED: the statements are not yours to turn. If you find one false, say at which input.
  Laid BY PROGRAM, IN A SANDBOX (cutbox-rows.mjs): the forced cells as the released guide's own fill.sh prints them over the translation 592a02bf46f976e1… (all of the seat's roots in one cut). By AI agents, Wed Nov 11 2026. No macro, syntax, notation, axiom, sorry.
-/
import Derived.Test.YtbelfapnjjeclaaChecked
import GoSem.Claim
import GoSem.ClaimJoined
import GoSem.ClaimMapViews
import Derived.JoinedTies
import Derived.KernelRfl
namespace Go.Proofs.Ytbelfapnjjeclaa
/- THE CELL 'sum', in the pinned program and in every row, IS THE sha256 OF THE DUMP (.gsa) THAT YtbelfapnjjeclaaProg.lean LOADS. Nothing in Lean hashes anything: it is a label: what it is worth is what the hold of that sum in a sandbox is worth. -/
noncomputable def Try.pinned : Pinned := { name := "ytbelfapnjjeclaa", sum := "592a02bf46f976e108a67e23fb40bc6dc7ddca88f8444c9681a1982eb17725dc", checked := Try.checked }
namespace Rows
def none {H : Type} : Left H := { results := [], args := [] }

/-- 'drydocklaw12.ExtentFrom': WHATEVER THE INPUT: true; the input reads as it did. -/
def extentFromSpec : ChangeSpec := { name := "extentFrom", fn := fun _ => fun
  | [d] => { results := [.lit (.bool true)], args := [d] }
  | _ => none }
def extentFromRow : OpenClaim := { program := "ytbelfapnjjeclaa", sum := "592a02bf46f976e108a67e23fb40bc6dc7ddca88f8444c9681a1982eb17725dc", func := "drydock/drydocklaw12.ExtentFrom", spec := "extentFrom", inPlace := ["math.Float64bits", "math.Float64frombits", "math.archTrunc"], unfollowed := true, recurses := true, apart := false }
def ExtentFromSaid : Prop := extentFromRow.holds Try.pinned (OpenSpec.ofChange extentFromSpec)

/-- ITS FALSE NEIGHBOUR: 'it returns false'. Refute it at one input. -/
def extentFromWrong : ChangeSpec := { name := "extentFrom", fn := fun _ => fun
  | [d] => { results := [.lit (.bool false)], args := [d] }
  | _ => none }
def ExtentFromWrongFalsely : Prop := extentFromRow.holds Try.pinned (OpenSpec.ofChange extentFromWrong)

/-- 'drydocklaw12.ExtentBack': WHATEVER THE INPUT: true; the input reads as it did. -/
def extentBackSpec : ChangeSpec := { name := "extentBack", fn := fun _ => fun
  | [d] => { results := [.lit (.bool true)], args := [d] }
  | _ => none }
def extentBackRow : OpenClaim := { program := "ytbelfapnjjeclaa", sum := "592a02bf46f976e108a67e23fb40bc6dc7ddca88f8444c9681a1982eb17725dc", func := "drydock/drydocklaw12.ExtentBack", spec := "extentBack", inPlace := ["math.Float64bits", "math.Float64frombits", "math.archTrunc"], unfollowed := true, recurses := true, apart := false }
def ExtentBackSaid : Prop := extentBackRow.holds Try.pinned (OpenSpec.ofChange extentBackSpec)

/-- ITS FALSE NEIGHBOUR: 'it returns false'. Refute it at one input. -/
def extentBackWrong : ChangeSpec := { name := "extentBack", fn := fun _ => fun
  | [d] => { results := [.lit (.bool false)], args := [d] }
  | _ => none }
def ExtentBackWrongFalsely : Prop := extentBackRow.holds Try.pinned (OpenSpec.ofChange extentBackWrong)

/-- 'drydocklaw12.ExtentHalves': WHATEVER THE INPUT: true; the input reads as it did. -/
def extentHalvesSpec : ChangeSpec := { name := "extentHalves", fn := fun _ => fun
  | [d1, d2] => { results := [.lit (.bool true)], args := [d1, d2] }
  | _ => none }
def extentHalvesRow : OpenClaim := { program := "ytbelfapnjjeclaa", sum := "592a02bf46f976e108a67e23fb40bc6dc7ddca88f8444c9681a1982eb17725dc", func := "drydock/drydocklaw12.ExtentHalves", spec := "extentHalves", inPlace := ["math.Float64bits", "math.Float64frombits", "math.archTrunc"], unfollowed := true, recurses := true, apart := false }
def ExtentHalvesSaid : Prop := extentHalvesRow.holds Try.pinned (OpenSpec.ofChange extentHalvesSpec)

/-- ITS FALSE NEIGHBOUR: 'it returns false'. Refute it at one input. -/
def extentHalvesWrong : ChangeSpec := { name := "extentHalves", fn := fun _ => fun
  | [d1, d2] => { results := [.lit (.bool false)], args := [d1, d2] }
  | _ => none }
def ExtentHalvesWrongFalsely : Prop := extentHalvesRow.holds Try.pinned (OpenSpec.ofChange extentHalvesWrong)

/- THE SECOND FORM. 'bulk': how many values and letters a reading holds, each counted each time it is reached (what is shared counts as often as it is met; a slice's spare places count too). A statement '..UptoSaid' is the law's where the arguments, and the package variables that the reading takes, are together of bulk at most 1048576: NARROWER than '..Said'. Prove '..Said' where nothing that the law and all that it calls make is longer than what came in: it says more and counts as full. Else prove '..UptoSaid'. A law counts once. -/
mutual
def uptoBulk {H : Type} : DataW H → Nat
  | .lit (.string bytes) => bytes.length + 1
  | .lit _ => 1
  | .nil => 1
  | .ptr d => uptoBulk d + 1
  | .slice elems spare => uptoBulkAll elems + uptoBulkAll spare + 1
  | .agg parts => uptoBulkAll parts + 1
  | .iface _ d => uptoBulk d + 1
  | .map entries => uptoBulkEntries entries + 1
  | .held _ => 1
def uptoBulkAll {H : Type} : List (DataW H) → Nat
  | [] => 0
  | d :: r => uptoBulk d + uptoBulkAll r
def uptoBulkEntries {H : Type} : List (Lit × DataW H) → Nat
  | [] => 0
  | x :: r => uptoBulkEntry x + uptoBulkEntries r
def uptoBulkEntry {H : Type} : Lit × DataW H → Nat
  | (.string bytes, d) => bytes.length + uptoBulk d + 1
  | (_, d) => uptoBulk d + 1
 end
def uptoSmall : (H : Type) → List (DataW H) → Bool := fun _ ds => decide (uptoBulkAll ds ≤ 1048576)
def OpenSpec.upto (s : _root_.Go.ChangeSpec) : _root_.Go.OpenSpec := { _root_.Go.OpenSpec.ofChange s with cond := some uptoSmall }

/-- 'drydocklaw12.ExtentFrom', WHERE WHAT IT READS IS OF BULK AT MOST 1048576: true; the input reads as it did. -/
def extentFromUptoRow : OpenClaim := { program := "ytbelfapnjjeclaa", sum := "592a02bf46f976e108a67e23fb40bc6dc7ddca88f8444c9681a1982eb17725dc", func := "drydock/drydocklaw12.ExtentFrom", spec := "extentFrom", inPlace := ["math.Float64bits", "math.Float64frombits", "math.archTrunc"], unfollowed := true, recurses := true, apart := false, narrowed := true }
def ExtentFromUptoSaid : Prop := extentFromUptoRow.holds Try.pinned (OpenSpec.upto extentFromSpec)

/-- 'drydocklaw12.ExtentBack', WHERE WHAT IT READS IS OF BULK AT MOST 1048576: true; the input reads as it did. -/
def extentBackUptoRow : OpenClaim := { program := "ytbelfapnjjeclaa", sum := "592a02bf46f976e108a67e23fb40bc6dc7ddca88f8444c9681a1982eb17725dc", func := "drydock/drydocklaw12.ExtentBack", spec := "extentBack", inPlace := ["math.Float64bits", "math.Float64frombits", "math.archTrunc"], unfollowed := true, recurses := true, apart := false, narrowed := true }
def ExtentBackUptoSaid : Prop := extentBackUptoRow.holds Try.pinned (OpenSpec.upto extentBackSpec)

/-- 'drydocklaw12.ExtentHalves', WHERE WHAT IT READS IS OF BULK AT MOST 1048576: true; the input reads as it did. -/
def extentHalvesUptoRow : OpenClaim := { program := "ytbelfapnjjeclaa", sum := "592a02bf46f976e108a67e23fb40bc6dc7ddca88f8444c9681a1982eb17725dc", func := "drydock/drydocklaw12.ExtentHalves", spec := "extentHalves", inPlace := ["math.Float64bits", "math.Float64frombits", "math.archTrunc"], unfollowed := true, recurses := true, apart := false, narrowed := true }
def ExtentHalvesUptoSaid : Prop := extentHalvesUptoRow.holds Try.pinned (OpenSpec.upto extentHalvesSpec)

end Rows
end Go.Proofs.Ytbelfapnjjeclaa
