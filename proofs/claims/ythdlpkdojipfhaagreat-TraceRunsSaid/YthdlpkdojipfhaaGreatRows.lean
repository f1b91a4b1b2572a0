/-
  No cell of these rows narrows 'for every input' (looked for: loops, veiled, ifaces, maps, wideKeys, modest, calm, conditions, laid).
  DERIVED. THE GIVEN ROWS OF THIS SEAT. 10 by the template 'for every input the law returns true; each argument reads behind the call as it read before'; 0 by the template 'total and deterministic' (their statements: YthdlpkdojipfhaaGreatTotals.lean).
  GIVEN WITH THE SEED: the statements are not yours to turn. If you find one false, say at which input.
  Laid BY PROGRAM, IN A SANDBOX (cutbox-rows.mjs): the forced cells as the released guide's own fill.sh prints them over the translation 613912b75561a363… (all of the seat's roots in one cut). By AI agents, Wed Nov 11 2026. No macro, syntax, notation, axiom, sorry.
-/
import Derived.Test.YthdlpkdojipfhaaGreatChecked
import GoSem.Claim
import GoSem.ClaimJoined
import GoSem.ClaimMapViews
import Derived.JoinedTies
import Derived.KernelRfl
namespace Go.Proofs.YthdlpkdojipfhaaGreat
/- THE CELL 'sum', in the pinned program and in every row, IS THE sha256 OF THE DUMP (.gsa) THAT YthdlpkdojipfhaaGreatProg.lean LOADS. Nothing in Lean hashes anything: it is a label: what it is worth is what the hold of that sum in a sandbox is worth. -/
noncomputable def Tryz.pinned : Pinned := { name := "ythdlpkdojipfhaagreat", sum := "613912b75561a363d9289c64d35761e1676286acd7ef53ef0fa476d0f55c7a7d", checked := Tryz.checked }
namespace Rows
def none {H : Type} : Left H := { results := [], args := [] }

/-- 'plaitlaw12.MachineSteps': WHATEVER THE INPUT: true; the input reads as it did. -/
def machineStepsSpec : ChangeSpec := { name := "machineSteps", fn := fun _ => fun
  | [d1, d2, d3] => { results := [.lit (.bool true)], args := [d1, d2, d3] }
  | _ => none }
def machineStepsRow : OpenClaim := { program := "ythdlpkdojipfhaagreat", sum := "613912b75561a363d9289c64d35761e1676286acd7ef53ef0fa476d0f55c7a7d", func := "plait/plaitlaw12.MachineSteps", spec := "machineSteps", unfollowed := true, recurses := true, plainKeys := false, apart := false }
def MachineStepsSaid : Prop := machineStepsRow.holds Tryz.pinned (OpenSpec.ofChange machineStepsSpec)

/-- ITS FALSE NEIGHBOUR: 'it returns false'. Refute it at one input. -/
def machineStepsWrong : ChangeSpec := { name := "machineSteps", fn := fun _ => fun
  | [d1, d2, d3] => { results := [.lit (.bool false)], args := [d1, d2, d3] }
  | _ => none }
def MachineStepsWrongFalsely : Prop := machineStepsRow.holds Tryz.pinned (OpenSpec.ofChange machineStepsWrong)

/-- 'plaitlaw12.MachineGoes': WHATEVER THE INPUT: true; the input reads as it did. -/
def machineGoesSpec : ChangeSpec := { name := "machineGoes", fn := fun _ => fun
  | [d1, d2] => { results := [.lit (.bool true)], args := [d1, d2] }
  | _ => none }
def machineGoesRow : OpenClaim := { program := "ythdlpkdojipfhaagreat", sum := "613912b75561a363d9289c64d35761e1676286acd7ef53ef0fa476d0f55c7a7d", func := "plait/plaitlaw12.MachineGoes", spec := "machineGoes", unfollowed := true, recurses := true, plainKeys := false, apart := false }
def MachineGoesSaid : Prop := machineGoesRow.holds Tryz.pinned (OpenSpec.ofChange machineGoesSpec)

/-- ITS FALSE NEIGHBOUR: 'it returns false'. Refute it at one input. -/
def machineGoesWrong : ChangeSpec := { name := "machineGoes", fn := fun _ => fun
  | [d1, d2] => { results := [.lit (.bool false)], args := [d1, d2] }
  | _ => none }
def MachineGoesWrongFalsely : Prop := machineGoesRow.holds Tryz.pinned (OpenSpec.ofChange machineGoesWrong)

/-- 'plaitlaw12.MachineApart': WHATEVER THE INPUT: true; the input reads as it did. -/
def machineApartSpec : ChangeSpec := { name := "machineApart", fn := fun _ => fun
  | [d1, d2] => { results := [.lit (.bool true)], args := [d1, d2] }
  | _ => none }
def machineApartRow : OpenClaim := { program := "ythdlpkdojipfhaagreat", sum := "613912b75561a363d9289c64d35761e1676286acd7ef53ef0fa476d0f55c7a7d", func := "plait/plaitlaw12.MachineApart", spec := "machineApart", unfollowed := true, recurses := true, plainKeys := false, apart := false }
def MachineApartSaid : Prop := machineApartRow.holds Tryz.pinned (OpenSpec.ofChange machineApartSpec)

/-- ITS FALSE NEIGHBOUR: 'it returns false'. Refute it at one input. -/
def machineApartWrong : ChangeSpec := { name := "machineApart", fn := fun _ => fun
  | [d1, d2] => { results := [.lit (.bool false)], args := [d1, d2] }
  | _ => none }
def MachineApartWrongFalsely : Prop := machineApartRow.holds Tryz.pinned (OpenSpec.ofChange machineApartWrong)

/-- 'plaitlaw12.MachineEnds': WHATEVER THE INPUT: true; the input reads as it did. -/
def machineEndsSpec : ChangeSpec := { name := "machineEnds", fn := fun _ => fun
  | [d1, d2] => { results := [.lit (.bool true)], args := [d1, d2] }
  | _ => none }
def machineEndsRow : OpenClaim := { program := "ythdlpkdojipfhaagreat", sum := "613912b75561a363d9289c64d35761e1676286acd7ef53ef0fa476d0f55c7a7d", func := "plait/plaitlaw12.MachineEnds", spec := "machineEnds", unfollowed := true, recurses := true, plainKeys := false, apart := false }
def MachineEndsSaid : Prop := machineEndsRow.holds Tryz.pinned (OpenSpec.ofChange machineEndsSpec)

/-- ITS FALSE NEIGHBOUR: 'it returns false'. Refute it at one input. -/
def machineEndsWrong : ChangeSpec := { name := "machineEnds", fn := fun _ => fun
  | [d1, d2] => { results := [.lit (.bool false)], args := [d1, d2] }
  | _ => none }
def MachineEndsWrongFalsely : Prop := machineEndsRow.holds Tryz.pinned (OpenSpec.ofChange machineEndsWrong)

/-- 'plaitlaw13.RunStarts': WHATEVER THE INPUT: true; the input reads as it did. -/
def runStartsSpec : ChangeSpec := { name := "runStarts", fn := fun _ => fun
  | [d1, d2, d3, d4] => { results := [.lit (.bool true)], args := [d1, d2, d3, d4] }
  | _ => none }
def runStartsRow : OpenClaim := { program := "ythdlpkdojipfhaagreat", sum := "613912b75561a363d9289c64d35761e1676286acd7ef53ef0fa476d0f55c7a7d", func := "plait/plaitlaw13.RunStarts", spec := "runStarts", unfollowed := true, recurses := true, plainKeys := false, apart := false }
def RunStartsSaid : Prop := runStartsRow.holds Tryz.pinned (OpenSpec.ofChange runStartsSpec)

/-- ITS FALSE NEIGHBOUR: 'it returns false'. Refute it at one input. -/
def runStartsWrong : ChangeSpec := { name := "runStarts", fn := fun _ => fun
  | [d1, d2, d3, d4] => { results := [.lit (.bool false)], args := [d1, d2, d3, d4] }
  | _ => none }
def RunStartsWrongFalsely : Prop := runStartsRow.holds Tryz.pinned (OpenSpec.ofChange runStartsWrong)

/-- 'plaitlaw13.RunTells': WHATEVER THE INPUT: true; the input reads as it did. -/
def runTellsSpec : ChangeSpec := { name := "runTells", fn := fun _ => fun
  | [d1, d2, d3] => { results := [.lit (.bool true)], args := [d1, d2, d3] }
  | _ => none }
def runTellsRow : OpenClaim := { program := "ythdlpkdojipfhaagreat", sum := "613912b75561a363d9289c64d35761e1676286acd7ef53ef0fa476d0f55c7a7d", func := "plait/plaitlaw13.RunTells", spec := "runTells", unfollowed := true, recurses := true, plainKeys := false, apart := false }
def RunTellsSaid : Prop := runTellsRow.holds Tryz.pinned (OpenSpec.ofChange runTellsSpec)

/-- ITS FALSE NEIGHBOUR: 'it returns false'. Refute it at one input. -/
def runTellsWrong : ChangeSpec := { name := "runTells", fn := fun _ => fun
  | [d1, d2, d3] => { results := [.lit (.bool false)], args := [d1, d2, d3] }
  | _ => none }
def RunTellsWrongFalsely : Prop := runTellsRow.holds Tryz.pinned (OpenSpec.ofChange runTellsWrong)

/-- 'plaitlaw13.RunReplays': WHATEVER THE INPUT: true; the input reads as it did. -/
def runReplaysSpec : ChangeSpec := { name := "runReplays", fn := fun _ => fun
  | [d1, d2] => { results := [.lit (.bool true)], args := [d1, d2] }
  | _ => none }
def runReplaysRow : OpenClaim := { program := "ythdlpkdojipfhaagreat", sum := "613912b75561a363d9289c64d35761e1676286acd7ef53ef0fa476d0f55c7a7d", func := "plait/plaitlaw13.RunReplays", spec := "runReplays", unfollowed := true, recurses := true, plainKeys := false, apart := false }
def RunReplaysSaid : Prop := runReplaysRow.holds Tryz.pinned (OpenSpec.ofChange runReplaysSpec)

/-- ITS FALSE NEIGHBOUR: 'it returns false'. Refute it at one input. -/
def runReplaysWrong : ChangeSpec := { name := "runReplays", fn := fun _ => fun
  | [d1, d2] => { results := [.lit (.bool false)], args := [d1, d2] }
  | _ => none }
def RunReplaysWrongFalsely : Prop := runReplaysRow.holds Tryz.pinned (OpenSpec.ofChange runReplaysWrong)

/-- 'plaitlaw13.RunBack': WHATEVER THE INPUT: true; the input reads as it did. -/
def runBackSpec : ChangeSpec := { name := "runBack", fn := fun _ => fun
  | [d1, d2, d3, d4] => { results := [.lit (.bool true)], args := [d1, d2, d3, d4] }
  | _ => none }
def runBackRow : OpenClaim := { program := "ythdlpkdojipfhaagreat", sum := "613912b75561a363d9289c64d35761e1676286acd7ef53ef0fa476d0f55c7a7d", func := "plait/plaitlaw13.RunBack", spec := "runBack", unfollowed := true, recurses := true, plainKeys := false, apart := false }
def RunBackSaid : Prop := runBackRow.holds Tryz.pinned (OpenSpec.ofChange runBackSpec)

/-- ITS FALSE NEIGHBOUR: 'it returns false'. Refute it at one input. -/
def runBackWrong : ChangeSpec := { name := "runBack", fn := fun _ => fun
  | [d1, d2, d3, d4] => { results := [.lit (.bool false)], args := [d1, d2, d3, d4] }
  | _ => none }
def RunBackWrongFalsely : Prop := runBackRow.holds Tryz.pinned (OpenSpec.ofChange runBackWrong)

/-- 'plaitlaw13.RunWidths': WHATEVER THE INPUT: true; the input reads as it did. -/
def runWidthsSpec : ChangeSpec := { name := "runWidths", fn := fun _ => fun
  | [d1, d2, d3, d4, d5] => { results := [.lit (.bool true)], args := [d1, d2, d3, d4, d5] }
  | _ => none }
def runWidthsRow : OpenClaim := { program := "ythdlpkdojipfhaagreat", sum := "613912b75561a363d9289c64d35761e1676286acd7ef53ef0fa476d0f55c7a7d", func := "plait/plaitlaw13.RunWidths", spec := "runWidths", unfollowed := true, recurses := true, plainKeys := false, apart := false }
def RunWidthsSaid : Prop := runWidthsRow.holds Tryz.pinned (OpenSpec.ofChange runWidthsSpec)

/-- ITS FALSE NEIGHBOUR: 'it returns false'. Refute it at one input. -/
def runWidthsWrong : ChangeSpec := { name := "runWidths", fn := fun _ => fun
  | [d1, d2, d3, d4, d5] => { results := [.lit (.bool false)], args := [d1, d2, d3, d4, d5] }
  | _ => none }
def RunWidthsWrongFalsely : Prop := runWidthsRow.holds Tryz.pinned (OpenSpec.ofChange runWidthsWrong)

/-- 'plaitlaw14.TraceRuns': WHATEVER THE INPUT: true; the input reads as it did. -/
def traceRunsSpec : ChangeSpec := { name := "traceRuns", fn := fun _ => fun
  | [d1, d2, d3, d4] => { results := [.lit (.bool true)], args := [d1, d2, d3, d4] }
  | _ => none }
def traceRunsRow : OpenClaim := { program := "ythdlpkdojipfhaagreat", sum := "613912b75561a363d9289c64d35761e1676286acd7ef53ef0fa476d0f55c7a7d", func := "plait/plaitlaw14.TraceRuns", spec := "traceRuns", unfollowed := true, recurses := true, plainKeys := false, apart := false }
def TraceRunsSaid : Prop := traceRunsRow.holds Tryz.pinned (OpenSpec.ofChange traceRunsSpec)

/-- ITS FALSE NEIGHBOUR: 'it returns false'. Refute it at one input. -/
def traceRunsWrong : ChangeSpec := { name := "traceRuns", fn := fun _ => fun
  | [d1, d2, d3, d4] => { results := [.lit (.bool false)], args := [d1, d2, d3, d4] }
  | _ => none }
def TraceRunsWrongFalsely : Prop := traceRunsRow.holds Tryz.pinned (OpenSpec.ofChange traceRunsWrong)

/- THE SECOND FORM. 'bulk': how many values and letters a reading holds, each counted each time it is reached (what is shared counts as often as it is met; a slice's spare places count too). A statement '..UptoSaid' is the law's where the arguments, and the package variables that the reading takes, are together of bulk at most 1048576: NARROWER than '..Said'. Prove '..Said' where nothing that the law and all that it calls make is longer than what came in: it says more and counts as full. Else prove '..UptoSaid'. A law counts once. -/
mutual
def uptoBulk {H : Type} : DataW H → Nat
  | .lit (.string bytes) => bytes.length + 1
  | .lit _ => 1
  | .nil => 1
  | .ptr d => uptoBulk d + 1
  | .slice elems spare => uptoBulkAll elems + uptoBulkAll spare + 1
  | .agg parts => uptoBulkAll parts + 1
  | .iface _ d => uptoBulk d + 1
  | .map entries => uptoBulkEntries entries + 1
  | .held _ => 1
def uptoBulkAll {H : Type} : List (DataW H) → Nat
  | [] => 0
  | d :: r => uptoBulk d + uptoBulkAll r
def uptoBulkEntries {H : Type} : List (Lit × DataW H) → Nat
  | [] => 0
  | x :: r => uptoBulkEntry x + uptoBulkEntries r
def uptoBulkEntry {H : Type} : Lit × DataW H → Nat
  | (.string bytes, d) => bytes.length + uptoBulk d + 1
  | (_, d) => uptoBulk d + 1
 end
def uptoSmall : (H : Type) → List (DataW H) → Bool := fun _ ds => decide (uptoBulkAll ds ≤ 1048576)
def OpenSpec.upto (s : _root_.Go.ChangeSpec) : _root_.Go.OpenSpec := { _root_.Go.OpenSpec.ofChange s with cond := some uptoSmall }

/-- 'plaitlaw12.MachineSteps', WHERE WHAT IT READS IS OF BULK AT MOST 1048576: true; the input reads as it did. -/
def machineStepsUptoRow : OpenClaim := { program := "ythdlpkdojipfhaagreat", sum := "613912b75561a363d9289c64d35761e1676286acd7ef53ef0fa476d0f55c7a7d", func := "plait/plaitlaw12.MachineSteps", spec := "machineSteps", unfollowed := true, recurses := true, plainKeys := false, apart := false, narrowed := true }
def MachineStepsUptoSaid : Prop := machineStepsUptoRow.holds Tryz.pinned (OpenSpec.upto machineStepsSpec)

/-- 'plaitlaw12.MachineGoes', WHERE WHAT IT READS IS OF BULK AT MOST 1048576: true; the input reads as it did. -/
def machineGoesUptoRow : OpenClaim := { program := "ythdlpkdojipfhaagreat", sum := "613912b75561a363d9289c64d35761e1676286acd7ef53ef0fa476d0f55c7a7d", func := "plait/plaitlaw12.MachineGoes", spec := "machineGoes", unfollowed := true, recurses := true, plainKeys := false, apart := false, narrowed := true }
def MachineGoesUptoSaid : Prop := machineGoesUptoRow.holds Tryz.pinned (OpenSpec.upto machineGoesSpec)

/-- 'plaitlaw12.MachineApart', WHERE WHAT IT READS IS OF BULK AT MOST 1048576: true; the input reads as it did. -/
def machineApartUptoRow : OpenClaim := { program := "ythdlpkdojipfhaagreat", sum := "613912b75561a363d9289c64d35761e1676286acd7ef53ef0fa476d0f55c7a7d", func := "plait/plaitlaw12.MachineApart", spec := "machineApart", unfollowed := true, recurses := true, plainKeys := false, apart := false, narrowed := true }
def MachineApartUptoSaid : Prop := machineApartUptoRow.holds Tryz.pinned (OpenSpec.upto machineApartSpec)

/-- 'plaitlaw12.MachineEnds', WHERE WHAT IT READS IS OF BULK AT MOST 1048576: true; the input reads as it did. -/
def machineEndsUptoRow : OpenClaim := { program := "ythdlpkdojipfhaagreat", sum := "613912b75561a363d9289c64d35761e1676286acd7ef53ef0fa476d0f55c7a7d", func := "plait/plaitlaw12.MachineEnds", spec := "machineEnds", unfollowed := true, recurses := true, plainKeys := false, apart := false, narrowed := true }
def MachineEndsUptoSaid : Prop := machineEndsUptoRow.holds Tryz.pinned (OpenSpec.upto machineEndsSpec)

/-- 'plaitlaw13.RunStarts', WHERE WHAT IT READS IS OF BULK AT MOST 1048576: true; the input reads as it did. -/
def runStartsUptoRow : OpenClaim := { program := "ythdlpkdojipfhaagreat", sum := "613912b75561a363d9289c64d35761e1676286acd7ef53ef0fa476d0f55c7a7d", func := "plait/plaitlaw13.RunStarts", spec := "runStarts", unfollowed := true, recurses := true, plainKeys := false, apart := false, narrowed := true }
def RunStartsUptoSaid : Prop := runStartsUptoRow.holds Tryz.pinned (OpenSpec.upto runStartsSpec)

/-- 'plaitlaw13.RunTells', WHERE WHAT IT READS IS OF BULK AT MOST 1048576: true; the input reads as it did. -/
def runTellsUptoRow : OpenClaim := { program := "ythdlpkdojipfhaagreat", sum := "613912b75561a363d9289c64d35761e1676286acd7ef53ef0fa476d0f55c7a7d", func := "plait/plaitlaw13.RunTells", spec := "runTells", unfollowed := true, recurses := true, plainKeys := false, apart := false, narrowed := true }
def RunTellsUptoSaid : Prop := runTellsUptoRow.holds Tryz.pinned (OpenSpec.upto runTellsSpec)

/-- 'plaitlaw13.RunReplays', WHERE WHAT IT READS IS OF BULK AT MOST 1048576: true; the input reads as it did. -/
def runReplaysUptoRow : OpenClaim := { program := "ythdlpkdojipfhaagreat", sum := "613912b75561a363d9289c64d35761e1676286acd7ef53ef0fa476d0f55c7a7d", func := "plait/plaitlaw13.RunReplays", spec := "runReplays", unfollowed := true, recurses := true, plainKeys := false, apart := false, narrowed := true }
def RunReplaysUptoSaid : Prop := runReplaysUptoRow.holds Tryz.pinned (OpenSpec.upto runReplaysSpec)

/-- 'plaitlaw13.RunBack', WHERE WHAT IT READS IS OF BULK AT MOST 1048576: true; the input reads as it did. -/
def runBackUptoRow : OpenClaim := { program := "ythdlpkdojipfhaagreat", sum := "613912b75561a363d9289c64d35761e1676286acd7ef53ef0fa476d0f55c7a7d", func := "plait/plaitlaw13.RunBack", spec := "runBack", unfollowed := true, recurses := true, plainKeys := false, apart := false, narrowed := true }
def RunBackUptoSaid : Prop := runBackUptoRow.holds Tryz.pinned (OpenSpec.upto runBackSpec)

/-- 'plaitlaw13.RunWidths', WHERE WHAT IT READS IS OF BULK AT MOST 1048576: true; the input reads as it did. -/
def runWidthsUptoRow : OpenClaim := { program := "ythdlpkdojipfhaagreat", sum := "613912b75561a363d9289c64d35761e1676286acd7ef53ef0fa476d0f55c7a7d", func := "plait/plaitlaw13.RunWidths", spec := "runWidths", unfollowed := true, recurses := true, plainKeys := false, apart := false, narrowed := true }
def RunWidthsUptoSaid : Prop := runWidthsUptoRow.holds Tryz.pinned (OpenSpec.upto runWidthsSpec)

/-- 'plaitlaw14.TraceRuns', WHERE WHAT IT READS IS OF BULK AT MOST 1048576: true; the input reads as it did. -/
def traceRunsUptoRow : OpenClaim := { program := "ythdlpkdojipfhaagreat", sum := "613912b75561a363d9289c64d35761e1676286acd7ef53ef0fa476d0f55c7a7d", func := "plait/plaitlaw14.TraceRuns", spec := "traceRuns", unfollowed := true, recurses := true, plainKeys := false, apart := false, narrowed := true }
def TraceRunsUptoSaid : Prop := traceRunsUptoRow.holds Tryz.pinned (OpenSpec.upto traceRunsSpec)

end Rows
end Go.Proofs.YthdlpkdojipfhaaGreat
