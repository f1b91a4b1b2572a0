/-
  No cell of these rows narrows 'for every input' (looked for: loops, veiled, ifaces, maps, wideKeys, modest, calm, conditions, laid).
  DERIVED. THE GIVEN ROWS OF THIS SEAT. 2 by the template 'for every input the law returns true; each argument reads behind the call as it read before'; 0 by the template 'total and deterministic' (their statements: YtifbgkikkiallaaTotals.lean).
  GIVEN WITH THE SEED: the statements are not yours to turn. If you find one false, say at which input.
  Laid BY PROGRAM, IN A SANDBOX (cutbox-rows.mjs): the forced cells as the released guide's own fill.sh prints them over the translation 01ca0e1b2b6fac56… (all of the seat's roots in one cut). By AI agents, Wed Nov 11 2026. No macro, syntax, notation, axiom, sorry.
-/
import Derived.Test.YtifbgkikkiallaaChecked
import GoSem.Claim
import GoSem.ClaimJoined
import GoSem.ClaimMapViews
import Derived.JoinedTies
import Derived.KernelRfl
namespace Go.Proofs.Ytifbgkikkiallaa
/- THE CELL 'sum', in the pinned program and in every row, IS THE sha256 OF THE DUMP (.gsa) THAT YtifbgkikkiallaaProg.lean LOADS. Nothing in Lean hashes anything: it is a label: what it is worth is what the hold of that sum in a sandbox is worth. -/
noncomputable def Try.pinned : Pinned := { name := "ytifbgkikkiallaa", sum := "01ca0e1b2b6fac562f46b6fa46aea762f1e56ff55011db1588de1e8d9f7d657a", checked := Try.checked }
namespace Rows
def none {H : Type} : Left H := { results := [], args := [] }

/-- 'plaitlaw15.EdgesTell': WHATEVER THE INPUT: true; the input reads as it did. -/
def edgesTellSpec : ChangeSpec := { name := "edgesTell", fn := fun _ => fun
  | [d1, d2, d3] => { results := [.lit (.bool true)], args := [d1, d2, d3] }
  | _ => none }
def edgesTellRow : OpenClaim := { program := "ytifbgkikkiallaa", sum := "01ca0e1b2b6fac562f46b6fa46aea762f1e56ff55011db1588de1e8d9f7d657a", func := "plait/plaitlaw15.EdgesTell", spec := "edgesTell", unfollowed := true, recurses := true, plainKeys := false, apart := false }
def EdgesTellSaid : Prop := edgesTellRow.holds Try.pinned (OpenSpec.ofChange edgesTellSpec)

/-- ITS FALSE NEIGHBOUR: 'it returns false'. Refute it at one input. -/
def edgesTellWrong : ChangeSpec := { name := "edgesTell", fn := fun _ => fun
  | [d1, d2, d3] => { results := [.lit (.bool false)], args := [d1, d2, d3] }
  | _ => none }
def EdgesTellWrongFalsely : Prop := edgesTellRow.holds Try.pinned (OpenSpec.ofChange edgesTellWrong)

/-- 'plaitlaw16.StampTells': WHATEVER THE INPUT: true; the input reads as it did. -/
def stampTellsSpec : ChangeSpec := { name := "stampTells", fn := fun _ => fun
  | [d1, d2, d3] => { results := [.lit (.bool true)], args := [d1, d2, d3] }
  | _ => none }
def stampTellsRow : OpenClaim := { program := "ytifbgkikkiallaa", sum := "01ca0e1b2b6fac562f46b6fa46aea762f1e56ff55011db1588de1e8d9f7d657a", func := "plait/plaitlaw16.StampTells", spec := "stampTells", unfollowed := true, recurses := true, plainKeys := false, apart := false }
def StampTellsSaid : Prop := stampTellsRow.holds Try.pinned (OpenSpec.ofChange stampTellsSpec)

/-- ITS FALSE NEIGHBOUR: 'it returns false'. Refute it at one input. -/
def stampTellsWrong : ChangeSpec := { name := "stampTells", fn := fun _ => fun
  | [d1, d2, d3] => { results := [.lit (.bool false)], args := [d1, d2, d3] }
  | _ => none }
def StampTellsWrongFalsely : Prop := stampTellsRow.holds Try.pinned (OpenSpec.ofChange stampTellsWrong)

/- THE SECOND FORM. 'bulk': how many values and letters a reading holds, each counted each time it is reached (what is shared counts as often as it is met; a slice's spare places count too). A statement '..UptoSaid' is the law's where the arguments, and the package variables that the reading takes, are together of bulk at most 1048576: NARROWER than '..Said'. Prove '..Said' where nothing that the law and all that it calls make is longer than what came in: it says more and counts as full. Else prove '..UptoSaid'. A law counts once. -/
mutual
def uptoBulk {H : Type} : DataW H → Nat
  | .lit (.string bytes) => bytes.length + 1
  | .lit _ => 1
  | .nil => 1
  | .ptr d => uptoBulk d + 1
  | .slice elems spare => uptoBulkAll elems + uptoBulkAll spare + 1
  | .agg parts => uptoBulkAll parts + 1
  | .iface _ d => uptoBulk d + 1
  | .map entries => uptoBulkEntries entries + 1
  | .held _ => 1
def uptoBulkAll {H : Type} : List (DataW H) → Nat
  | [] => 0
  | d :: r => uptoBulk d + uptoBulkAll r
def uptoBulkEntries {H : Type} : List (Lit × DataW H) → Nat
  | [] => 0
  | x :: r => uptoBulkEntry x + uptoBulkEntries r
def uptoBulkEntry {H : Type} : Lit × DataW H → Nat
  | (.string bytes, d) => bytes.length + uptoBulk d + 1
  | (_, d) => uptoBulk d + 1
 end
def uptoSmall : (H : Type) → List (DataW H) → Bool := fun _ ds => decide (uptoBulkAll ds ≤ 1048576)
def OpenSpec.upto (s : _root_.Go.ChangeSpec) : _root_.Go.OpenSpec := { _root_.Go.OpenSpec.ofChange s with cond := some uptoSmall }

/-- 'plaitlaw15.EdgesTell', WHERE WHAT IT READS IS OF BULK AT MOST 1048576: true; the input reads as it did. -/
def edgesTellUptoRow : OpenClaim := { program := "ytifbgkikkiallaa", sum := "01ca0e1b2b6fac562f46b6fa46aea762f1e56ff55011db1588de1e8d9f7d657a", func := "plait/plaitlaw15.EdgesTell", spec := "edgesTell", unfollowed := true, recurses := true, plainKeys := false, apart := false, narrowed := true }
def EdgesTellUptoSaid : Prop := edgesTellUptoRow.holds Try.pinned (OpenSpec.upto edgesTellSpec)

/-- 'plaitlaw16.StampTells', WHERE WHAT IT READS IS OF BULK AT MOST 1048576: true; the input reads as it did. -/
def stampTellsUptoRow : OpenClaim := { program := "ytifbgkikkiallaa", sum := "01ca0e1b2b6fac562f46b6fa46aea762f1e56ff55011db1588de1e8d9f7d657a", func := "plait/plaitlaw16.StampTells", spec := "stampTells", unfollowed := true, recurses := true, plainKeys := false, apart := false, narrowed := true }
def StampTellsUptoSaid : Prop := stampTellsUptoRow.holds Try.pinned (OpenSpec.upto stampTellsSpec)

end Rows
end Go.Proofs.Ytifbgkikkiallaa
