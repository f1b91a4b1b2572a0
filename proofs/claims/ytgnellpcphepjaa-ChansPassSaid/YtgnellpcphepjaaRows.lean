/-
  No cell of these rows narrows 'for every input' (looked for: loops, veiled, ifaces, maps, wideKeys, modest, calm, conditions, laid).
  DERIVED. THE GIVEN ROWS OF THIS SEAT. 4 by the template 'for every input the law returns true; each argument reads behind the call as it read before'; 0 by the template 'total and deterministic' (their statements: YtgnellpcphepjaaTotals.lean).
  GIVEN WITH THE SEED: the statements are not yours to turn. If you find one false, say at which input.
  Laid BY PROGRAM, IN A SANDBOX (cutbox-rows.mjs): the forced cells as the released guide's own fill.sh prints them over the translation 22b0d00657bb556f… (all of the seat's roots in one cut). By AI agents, Wed Nov 11 2026. No macro, syntax, notation, axiom, sorry.
-/
import Derived.Test.YtgnellpcphepjaaChecked
import GoSem.Claim
import GoSem.ClaimJoined
import GoSem.ClaimMapViews
import Derived.JoinedTies
import Derived.KernelRfl
namespace Go.Proofs.Ytgnellpcphepjaa
/- THE CELL 'sum', in the pinned program and in every row, IS THE sha256 OF THE DUMP (.gsa) THAT YtgnellpcphepjaaProg.lean LOADS. Nothing in Lean hashes anything: it is a label: what it is worth is what the hold of that sum in a sandbox is worth. -/
noncomputable def Try.pinned : Pinned := { name := "ytgnellpcphepjaa", sum := "22b0d00657bb556f87381d3e038559b9e9bbf4370a14d2a8cf12347c0ed22bef", checked := Try.checked }
namespace Rows
def none {H : Type} : Left H := { results := [], args := [] }

/-- 'plaitlaw09.ChansPass': WHATEVER THE INPUT: true; the input reads as it did. -/
def chansPassSpec : ChangeSpec := { name := "chansPass", fn := fun _ => fun
  | [d1, d2] => { results := [.lit (.bool true)], args := [d1, d2] }
  | _ => none }
def chansPassRow : OpenClaim := { program := "ytgnellpcphepjaa", sum := "22b0d00657bb556f87381d3e038559b9e9bbf4370a14d2a8cf12347c0ed22bef", func := "plait/plaitlaw09.ChansPass", spec := "chansPass", unfollowed := true, recurses := true, plainKeys := false, apart := false }
def ChansPassSaid : Prop := chansPassRow.holds Try.pinned (OpenSpec.ofChange chansPassSpec)

/-- ITS FALSE NEIGHBOUR: 'it returns false'. Refute it at one input. -/
def chansPassWrong : ChangeSpec := { name := "chansPass", fn := fun _ => fun
  | [d1, d2] => { results := [.lit (.bool false)], args := [d1, d2] }
  | _ => none }
def ChansPassWrongFalsely : Prop := chansPassRow.holds Try.pinned (OpenSpec.ofChange chansPassWrong)

/-- 'plaitlaw09.ChansCloses': WHATEVER THE INPUT: true; the input reads as it did. -/
def chansClosesSpec : ChangeSpec := { name := "chansCloses", fn := fun _ => fun
  | [d1, d2, d3] => { results := [.lit (.bool true)], args := [d1, d2, d3] }
  | _ => none }
def chansClosesRow : OpenClaim := { program := "ytgnellpcphepjaa", sum := "22b0d00657bb556f87381d3e038559b9e9bbf4370a14d2a8cf12347c0ed22bef", func := "plait/plaitlaw09.ChansCloses", spec := "chansCloses", unfollowed := true, recurses := true, plainKeys := false, apart := false }
def ChansClosesSaid : Prop := chansClosesRow.holds Try.pinned (OpenSpec.ofChange chansClosesSpec)

/-- ITS FALSE NEIGHBOUR: 'it returns false'. Refute it at one input. -/
def chansClosesWrong : ChangeSpec := { name := "chansCloses", fn := fun _ => fun
  | [d1, d2, d3] => { results := [.lit (.bool false)], args := [d1, d2, d3] }
  | _ => none }
def ChansClosesWrongFalsely : Prop := chansClosesRow.holds Try.pinned (OpenSpec.ofChange chansClosesWrong)

/-- 'plaitlaw09.ChansSides': WHATEVER THE INPUT: true; the input reads as it did. -/
def chansSidesSpec : ChangeSpec := { name := "chansSides", fn := fun _ => fun
  | [d1, d2, d3, d4] => { results := [.lit (.bool true)], args := [d1, d2, d3, d4] }
  | _ => none }
def chansSidesRow : OpenClaim := { program := "ytgnellpcphepjaa", sum := "22b0d00657bb556f87381d3e038559b9e9bbf4370a14d2a8cf12347c0ed22bef", func := "plait/plaitlaw09.ChansSides", spec := "chansSides", unfollowed := true, recurses := true, plainKeys := false, apart := false }
def ChansSidesSaid : Prop := chansSidesRow.holds Try.pinned (OpenSpec.ofChange chansSidesSpec)

/-- ITS FALSE NEIGHBOUR: 'it returns false'. Refute it at one input. -/
def chansSidesWrong : ChangeSpec := { name := "chansSides", fn := fun _ => fun
  | [d1, d2, d3, d4] => { results := [.lit (.bool false)], args := [d1, d2, d3, d4] }
  | _ => none }
def ChansSidesWrongFalsely : Prop := chansSidesRow.holds Try.pinned (OpenSpec.ofChange chansSidesWrong)

/-- 'plaitlaw09.ChansTell': WHATEVER THE INPUT: true; the input reads as it did. -/
def chansTellSpec : ChangeSpec := { name := "chansTell", fn := fun _ => fun
  | [d1, d2, d3, d4] => { results := [.lit (.bool true)], args := [d1, d2, d3, d4] }
  | _ => none }
def chansTellRow : OpenClaim := { program := "ytgnellpcphepjaa", sum := "22b0d00657bb556f87381d3e038559b9e9bbf4370a14d2a8cf12347c0ed22bef", func := "plait/plaitlaw09.ChansTell", spec := "chansTell", unfollowed := true, recurses := true, plainKeys := false, apart := false }
def ChansTellSaid : Prop := chansTellRow.holds Try.pinned (OpenSpec.ofChange chansTellSpec)

/-- ITS FALSE NEIGHBOUR: 'it returns false'. Refute it at one input. -/
def chansTellWrong : ChangeSpec := { name := "chansTell", fn := fun _ => fun
  | [d1, d2, d3, d4] => { results := [.lit (.bool false)], args := [d1, d2, d3, d4] }
  | _ => none }
def ChansTellWrongFalsely : Prop := chansTellRow.holds Try.pinned (OpenSpec.ofChange chansTellWrong)

/- THE SECOND FORM. 'bulk': how many values and letters a reading holds, each counted each time it is reached (what is shared counts as often as it is met; a slice's spare places count too). A statement '..UptoSaid' is the law's where the arguments, and the package variables that the reading takes, are together of bulk at most 1048576: NARROWER than '..Said'. Prove '..Said' where nothing that the law and all that it calls make is longer than what came in: it says more and counts as full. Else prove '..UptoSaid'. A law counts once. -/
mutual
def uptoBulk {H : Type} : DataW H → Nat
  | .lit (.string bytes) => bytes.length + 1
  | .lit _ => 1
  | .nil => 1
  | .ptr d => uptoBulk d + 1
  | .slice elems spare => uptoBulkAll elems + uptoBulkAll spare + 1
  | .agg parts => uptoBulkAll parts + 1
  | .iface _ d => uptoBulk d + 1
  | .map entries => uptoBulkEntries entries + 1
  | .held _ => 1
def uptoBulkAll {H : Type} : List (DataW H) → Nat
  | [] => 0
  | d :: r => uptoBulk d + uptoBulkAll r
def uptoBulkEntries {H : Type} : List (Lit × DataW H) → Nat
  | [] => 0
  | x :: r => uptoBulkEntry x + uptoBulkEntries r
def uptoBulkEntry {H : Type} : Lit × DataW H → Nat
  | (.string bytes, d) => bytes.length + uptoBulk d + 1
  | (_, d) => uptoBulk d + 1
 end
def uptoSmall : (H : Type) → List (DataW H) → Bool := fun _ ds => decide (uptoBulkAll ds ≤ 1048576)
def OpenSpec.upto (s : _root_.Go.ChangeSpec) : _root_.Go.OpenSpec := { _root_.Go.OpenSpec.ofChange s with cond := some uptoSmall }

/-- 'plaitlaw09.ChansPass', WHERE WHAT IT READS IS OF BULK AT MOST 1048576: true; the input reads as it did. -/
def chansPassUptoRow : OpenClaim := { program := "ytgnellpcphepjaa", sum := "22b0d00657bb556f87381d3e038559b9e9bbf4370a14d2a8cf12347c0ed22bef", func := "plait/plaitlaw09.ChansPass", spec := "chansPass", unfollowed := true, recurses := true, plainKeys := false, apart := false, narrowed := true }
def ChansPassUptoSaid : Prop := chansPassUptoRow.holds Try.pinned (OpenSpec.upto chansPassSpec)

/-- 'plaitlaw09.ChansCloses', WHERE WHAT IT READS IS OF BULK AT MOST 1048576: true; the input reads as it did. -/
def chansClosesUptoRow : OpenClaim := { program := "ytgnellpcphepjaa", sum := "22b0d00657bb556f87381d3e038559b9e9bbf4370a14d2a8cf12347c0ed22bef", func := "plait/plaitlaw09.ChansCloses", spec := "chansCloses", unfollowed := true, recurses := true, plainKeys := false, apart := false, narrowed := true }
def ChansClosesUptoSaid : Prop := chansClosesUptoRow.holds Try.pinned (OpenSpec.upto chansClosesSpec)

/-- 'plaitlaw09.ChansSides', WHERE WHAT IT READS IS OF BULK AT MOST 1048576: true; the input reads as it did. -/
def chansSidesUptoRow : OpenClaim := { program := "ytgnellpcphepjaa", sum := "22b0d00657bb556f87381d3e038559b9e9bbf4370a14d2a8cf12347c0ed22bef", func := "plait/plaitlaw09.ChansSides", spec := "chansSides", unfollowed := true, recurses := true, plainKeys := false, apart := false, narrowed := true }
def ChansSidesUptoSaid : Prop := chansSidesUptoRow.holds Try.pinned (OpenSpec.upto chansSidesSpec)

/-- 'plaitlaw09.ChansTell', WHERE WHAT IT READS IS OF BULK AT MOST 1048576: true; the input reads as it did. -/
def chansTellUptoRow : OpenClaim := { program := "ytgnellpcphepjaa", sum := "22b0d00657bb556f87381d3e038559b9e9bbf4370a14d2a8cf12347c0ed22bef", func := "plait/plaitlaw09.ChansTell", spec := "chansTell", unfollowed := true, recurses := true, plainKeys := false, apart := false, narrowed := true }
def ChansTellUptoSaid : Prop := chansTellUptoRow.holds Try.pinned (OpenSpec.upto chansTellSpec)

end Rows
end Go.Proofs.Ytgnellpcphepjaa
