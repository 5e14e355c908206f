/-
  No cell of these rows narrows 'for every input' (looked for: loops, veiled, ifaces, maps, wideKeys, modest, calm, conditions, laid).
  DERIVED. THE GIVEN ROWS OF THIS SEAT. 4 by the template 'for every input the law returns true; each argument reads behind the call as it read before'; 0 by the template 'total and deterministic' (their statements: YtoiafcelnohcfaaTotals.lean).
  GIVEN WITH THE SEED: the statements are not yours to turn. If you find one false, say at which input.
  Laid BY PROGRAM, IN A SANDBOX (cutbox-rows.mjs): the forced cells as the released guide's own fill.sh prints them over the translation fdfd7763b4c64d87… (all of the seat's roots in one cut). By AI agents, Wed Nov 11 2026. No macro, syntax, notation, axiom, sorry.
-/
import Derived.Test.YtoiafcelnohcfaaChecked
import GoSem.Claim
import GoSem.ClaimJoined
import GoSem.ClaimMapViews
import Derived.JoinedTies
import Derived.KernelRfl
namespace Go.Proofs.Ytoiafcelnohcfaa
/- THE CELL 'sum', in the pinned program and in every row, IS THE sha256 OF THE DUMP (.gsa) THAT YtoiafcelnohcfaaProg.lean LOADS. Nothing in Lean hashes anything: it is a label: what it is worth is what the hold of that sum in a sandbox is worth. -/
noncomputable def Try.pinned : Pinned := { name := "ytoiafcelnohcfaa", sum := "fdfd7763b4c64d875eb7d636e6fca3398ff23715c4dd5a436ec95b7487be9ddf", checked := Try.checked }
namespace Rows
def none {H : Type} : Left H := { results := [], args := [] }

/-- 'drydocklaw05.FlagsCount': WHATEVER THE INPUT: true; the input reads as it did. -/
def flagsCountSpec : ChangeSpec := { name := "flagsCount", fn := fun _ => fun
  | [d1, d2, d3] => { results := [.lit (.bool true)], args := [d1, d2, d3] }
  | _ => none }
def flagsCountRow : OpenClaim := { program := "ytoiafcelnohcfaa", sum := "fdfd7763b4c64d875eb7d636e6fca3398ff23715c4dd5a436ec95b7487be9ddf", func := "drydock/drydocklaw05.FlagsCount", spec := "flagsCount", inPlace := ["math.Float64bits", "math.Float64frombits", "math.archTrunc"], apart := false }
def FlagsCountSaid : Prop := flagsCountRow.holds Try.pinned (OpenSpec.ofChange flagsCountSpec)

/-- ITS FALSE NEIGHBOUR: 'it returns false'. Refute it at one input. -/
def flagsCountWrong : ChangeSpec := { name := "flagsCount", fn := fun _ => fun
  | [d1, d2, d3] => { results := [.lit (.bool false)], args := [d1, d2, d3] }
  | _ => none }
def FlagsCountWrongFalsely : Prop := flagsCountRow.holds Try.pinned (OpenSpec.ofChange flagsCountWrong)

/-- 'drydocklaw05.FlagsBack': WHATEVER THE INPUT: true; the input reads as it did. -/
def flagsBackSpec : ChangeSpec := { name := "flagsBack", fn := fun _ => fun
  | [d1, d2] => { results := [.lit (.bool true)], args := [d1, d2] }
  | _ => none }
def flagsBackRow : OpenClaim := { program := "ytoiafcelnohcfaa", sum := "fdfd7763b4c64d875eb7d636e6fca3398ff23715c4dd5a436ec95b7487be9ddf", func := "drydock/drydocklaw05.FlagsBack", spec := "flagsBack", inPlace := ["math.Float64bits", "math.Float64frombits", "math.archTrunc"], apart := false }
def FlagsBackSaid : Prop := flagsBackRow.holds Try.pinned (OpenSpec.ofChange flagsBackSpec)

/-- ITS FALSE NEIGHBOUR: 'it returns false'. Refute it at one input. -/
def flagsBackWrong : ChangeSpec := { name := "flagsBack", fn := fun _ => fun
  | [d1, d2] => { results := [.lit (.bool false)], args := [d1, d2] }
  | _ => none }
def FlagsBackWrongFalsely : Prop := flagsBackRow.holds Try.pinned (OpenSpec.ofChange flagsBackWrong)

/-- 'drydocklaw05.FlagsAll': WHATEVER THE INPUT: true; the input reads as it did. -/
def flagsAllSpec : ChangeSpec := { name := "flagsAll", fn := fun _ => fun
  | [d1, d2, d3] => { results := [.lit (.bool true)], args := [d1, d2, d3] }
  | _ => none }
def flagsAllRow : OpenClaim := { program := "ytoiafcelnohcfaa", sum := "fdfd7763b4c64d875eb7d636e6fca3398ff23715c4dd5a436ec95b7487be9ddf", func := "drydock/drydocklaw05.FlagsAll", spec := "flagsAll", inPlace := ["math.Float64bits", "math.Float64frombits", "math.archTrunc"], apart := false }
def FlagsAllSaid : Prop := flagsAllRow.holds Try.pinned (OpenSpec.ofChange flagsAllSpec)

/-- ITS FALSE NEIGHBOUR: 'it returns false'. Refute it at one input. -/
def flagsAllWrong : ChangeSpec := { name := "flagsAll", fn := fun _ => fun
  | [d1, d2, d3] => { results := [.lit (.bool false)], args := [d1, d2, d3] }
  | _ => none }
def FlagsAllWrongFalsely : Prop := flagsAllRow.holds Try.pinned (OpenSpec.ofChange flagsAllWrong)

/-- 'drydocklaw05.FlagsUp': WHATEVER THE INPUT: true; the input reads as it did. -/
def flagsUpSpec : ChangeSpec := { name := "flagsUp", fn := fun _ => fun
  | [d1, d2] => { results := [.lit (.bool true)], args := [d1, d2] }
  | _ => none }
def flagsUpRow : OpenClaim := { program := "ytoiafcelnohcfaa", sum := "fdfd7763b4c64d875eb7d636e6fca3398ff23715c4dd5a436ec95b7487be9ddf", func := "drydock/drydocklaw05.FlagsUp", spec := "flagsUp", inPlace := ["math.Float64bits", "math.Float64frombits", "math.archTrunc"], apart := false }
def FlagsUpSaid : Prop := flagsUpRow.holds Try.pinned (OpenSpec.ofChange flagsUpSpec)

/-- ITS FALSE NEIGHBOUR: 'it returns false'. Refute it at one input. -/
def flagsUpWrong : ChangeSpec := { name := "flagsUp", fn := fun _ => fun
  | [d1, d2] => { results := [.lit (.bool false)], args := [d1, d2] }
  | _ => none }
def FlagsUpWrongFalsely : Prop := flagsUpRow.holds Try.pinned (OpenSpec.ofChange flagsUpWrong)

/- THE SECOND FORM. 'bulk': how many values and letters a reading holds, each counted each time it is reached (what is shared counts as often as it is met; a slice's spare places count too). A statement '..UptoSaid' is the law's where the arguments, and the package variables that the reading takes, are together of bulk at most 1048576: NARROWER than '..Said'. Prove '..Said' where nothing that the law and all that it calls make is longer than what came in: it says more and counts as full. Else prove '..UptoSaid'. A law counts once. -/
mutual
def uptoBulk {H : Type} : DataW H → Nat
  | .lit (.string bytes) => bytes.length + 1
  | .lit _ => 1
  | .nil => 1
  | .ptr d => uptoBulk d + 1
  | .slice elems spare => uptoBulkAll elems + uptoBulkAll spare + 1
  | .agg parts => uptoBulkAll parts + 1
  | .iface _ d => uptoBulk d + 1
  | .map entries => uptoBulkEntries entries + 1
  | .held _ => 1
def uptoBulkAll {H : Type} : List (DataW H) → Nat
  | [] => 0
  | d :: r => uptoBulk d + uptoBulkAll r
def uptoBulkEntries {H : Type} : List (Lit × DataW H) → Nat
  | [] => 0
  | x :: r => uptoBulkEntry x + uptoBulkEntries r
def uptoBulkEntry {H : Type} : Lit × DataW H → Nat
  | (.string bytes, d) => bytes.length + uptoBulk d + 1
  | (_, d) => uptoBulk d + 1
 end
def uptoSmall : (H : Type) → List (DataW H) → Bool := fun _ ds => decide (uptoBulkAll ds ≤ 1048576)
def OpenSpec.upto (s : _root_.Go.ChangeSpec) : _root_.Go.OpenSpec := { _root_.Go.OpenSpec.ofChange s with cond := some uptoSmall }

/-- 'drydocklaw05.FlagsCount', WHERE WHAT IT READS IS OF BULK AT MOST 1048576: true; the input reads as it did. -/
def flagsCountUptoRow : OpenClaim := { program := "ytoiafcelnohcfaa", sum := "fdfd7763b4c64d875eb7d636e6fca3398ff23715c4dd5a436ec95b7487be9ddf", func := "drydock/drydocklaw05.FlagsCount", spec := "flagsCount", inPlace := ["math.Float64bits", "math.Float64frombits", "math.archTrunc"], apart := false, narrowed := true }
def FlagsCountUptoSaid : Prop := flagsCountUptoRow.holds Try.pinned (OpenSpec.upto flagsCountSpec)

/-- 'drydocklaw05.FlagsBack', WHERE WHAT IT READS IS OF BULK AT MOST 1048576: true; the input reads as it did. -/
def flagsBackUptoRow : OpenClaim := { program := "ytoiafcelnohcfaa", sum := "fdfd7763b4c64d875eb7d636e6fca3398ff23715c4dd5a436ec95b7487be9ddf", func := "drydock/drydocklaw05.FlagsBack", spec := "flagsBack", inPlace := ["math.Float64bits", "math.Float64frombits", "math.archTrunc"], apart := false, narrowed := true }
def FlagsBackUptoSaid : Prop := flagsBackUptoRow.holds Try.pinned (OpenSpec.upto flagsBackSpec)

/-- 'drydocklaw05.FlagsAll', WHERE WHAT IT READS IS OF BULK AT MOST 1048576: true; the input reads as it did. -/
def flagsAllUptoRow : OpenClaim := { program := "ytoiafcelnohcfaa", sum := "fdfd7763b4c64d875eb7d636e6fca3398ff23715c4dd5a436ec95b7487be9ddf", func := "drydock/drydocklaw05.FlagsAll", spec := "flagsAll", inPlace := ["math.Float64bits", "math.Float64frombits", "math.archTrunc"], apart := false, narrowed := true }
def FlagsAllUptoSaid : Prop := flagsAllUptoRow.holds Try.pinned (OpenSpec.upto flagsAllSpec)

/-- 'drydocklaw05.FlagsUp', WHERE WHAT IT READS IS OF BULK AT MOST 1048576: true; the input reads as it did. -/
def flagsUpUptoRow : OpenClaim := { program := "ytoiafcelnohcfaa", sum := "fdfd7763b4c64d875eb7d636e6fca3398ff23715c4dd5a436ec95b7487be9ddf", func := "drydock/drydocklaw05.FlagsUp", spec := "flagsUp", inPlace := ["math.Float64bits", "math.Float64frombits", "math.archTrunc"], apart := false, narrowed := true }
def FlagsUpUptoSaid : Prop := flagsUpUptoRow.holds Try.pinned (OpenSpec.upto flagsUpSpec)

end Rows
end Go.Proofs.Ytoiafcelnohcfaa
