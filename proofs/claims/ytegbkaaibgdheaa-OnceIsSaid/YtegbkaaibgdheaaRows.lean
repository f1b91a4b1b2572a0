/-
  No cell of these rows narrows 'for every input' (looked for: loops, veiled, ifaces, maps, wideKeys, modest, calm, conditions, laid).
  DERIVED. THE GIVEN ROWS OF THIS SEAT. 10 by the template 'for every input the law returns true; each argument reads behind the call as it read before'; 0 by the template 'total and deterministic' (their statements: YtegbkaaibgdheaaTotals.lean).
  GIVEN WITH THE SEED: the statements are not yours to turn. If you find one false, say at which input.
  Laid BY PROGRAM, IN A SANDBOX (cutbox-rows.mjs): the forced cells as the released guide's own fill.sh prints them over the translation 4c5143a2cd35fa4c… (all of the seat's roots in one cut). By AI agents, Wed Nov 11 2026. No macro, syntax, notation, axiom, sorry.
-/
import Derived.Test.YtegbkaaibgdheaaChecked
import GoSem.Claim
import GoSem.ClaimJoined
import GoSem.ClaimMapViews
import Derived.JoinedTies
import Derived.KernelRfl
namespace Go.Proofs.Ytegbkaaibgdheaa
/- THE CELL 'sum', in the pinned program and in every row, IS THE sha256 OF THE DUMP (.gsa) THAT YtegbkaaibgdheaaProg.lean LOADS. Nothing in Lean hashes anything: it is a label: what it is worth is what the hold of that sum in a sandbox is worth. -/
noncomputable def Try.pinned : Pinned := { name := "ytegbkaaibgdheaa", sum := "4c5143a2cd35fa4cd276e7c37afb886d0a4bc7fa968190e778651eac68276ce3", checked := Try.checked }
namespace Rows
def none {H : Type} : Left H := { results := [], args := [] }

/-- 'plaitlaw04.RingOrder': WHATEVER THE INPUT: true; the input reads as it did. -/
def ringOrderSpec : ChangeSpec := { name := "ringOrder", fn := fun _ => fun
  | [d1, d2] => { results := [.lit (.bool true)], args := [d1, d2] }
  | _ => none }
def ringOrderRow : OpenClaim := { program := "ytegbkaaibgdheaa", sum := "4c5143a2cd35fa4cd276e7c37afb886d0a4bc7fa968190e778651eac68276ce3", func := "plait/plaitlaw04.RingOrder", spec := "ringOrder", unfollowed := true, recurses := true, plainKeys := false, apart := false }
def RingOrderSaid : Prop := ringOrderRow.holds Try.pinned (OpenSpec.ofChange ringOrderSpec)

/-- ITS FALSE NEIGHBOUR: 'it returns false'. Refute it at one input. -/
def ringOrderWrong : ChangeSpec := { name := "ringOrder", fn := fun _ => fun
  | [d1, d2] => { results := [.lit (.bool false)], args := [d1, d2] }
  | _ => none }
def RingOrderWrongFalsely : Prop := ringOrderRow.holds Try.pinned (OpenSpec.ofChange ringOrderWrong)

/-- 'plaitlaw04.RingGrows': WHATEVER THE INPUT: true; the input reads as it did. -/
def ringGrowsSpec : ChangeSpec := { name := "ringGrows", fn := fun _ => fun
  | [d1, d2, d3] => { results := [.lit (.bool true)], args := [d1, d2, d3] }
  | _ => none }
def ringGrowsRow : OpenClaim := { program := "ytegbkaaibgdheaa", sum := "4c5143a2cd35fa4cd276e7c37afb886d0a4bc7fa968190e778651eac68276ce3", func := "plait/plaitlaw04.RingGrows", spec := "ringGrows", unfollowed := true, recurses := true, plainKeys := false, apart := false }
def RingGrowsSaid : Prop := ringGrowsRow.holds Try.pinned (OpenSpec.ofChange ringGrowsSpec)

/-- ITS FALSE NEIGHBOUR: 'it returns false'. Refute it at one input. -/
def ringGrowsWrong : ChangeSpec := { name := "ringGrows", fn := fun _ => fun
  | [d1, d2, d3] => { results := [.lit (.bool false)], args := [d1, d2, d3] }
  | _ => none }
def RingGrowsWrongFalsely : Prop := ringGrowsRow.holds Try.pinned (OpenSpec.ofChange ringGrowsWrong)

/-- 'plaitlaw05.WaitsOrder': WHATEVER THE INPUT: true; the input reads as it did. -/
def waitsOrderSpec : ChangeSpec := { name := "waitsOrder", fn := fun _ => fun
  | [d] => { results := [.lit (.bool true)], args := [d] }
  | _ => none }
def waitsOrderRow : OpenClaim := { program := "ytegbkaaibgdheaa", sum := "4c5143a2cd35fa4cd276e7c37afb886d0a4bc7fa968190e778651eac68276ce3", func := "plait/plaitlaw05.WaitsOrder", spec := "waitsOrder", unfollowed := true, recurses := true, plainKeys := false, apart := false }
def WaitsOrderSaid : Prop := waitsOrderRow.holds Try.pinned (OpenSpec.ofChange waitsOrderSpec)

/-- ITS FALSE NEIGHBOUR: 'it returns false'. Refute it at one input. -/
def waitsOrderWrong : ChangeSpec := { name := "waitsOrder", fn := fun _ => fun
  | [d] => { results := [.lit (.bool false)], args := [d] }
  | _ => none }
def WaitsOrderWrongFalsely : Prop := waitsOrderRow.holds Try.pinned (OpenSpec.ofChange waitsOrderWrong)

/-- 'plaitlaw04.RingTells': WHATEVER THE INPUT: true; the input reads as it did. -/
def ringTellsSpec : ChangeSpec := { name := "ringTells", fn := fun _ => fun
  | [d1, d2, d3] => { results := [.lit (.bool true)], args := [d1, d2, d3] }
  | _ => none }
def ringTellsRow : OpenClaim := { program := "ytegbkaaibgdheaa", sum := "4c5143a2cd35fa4cd276e7c37afb886d0a4bc7fa968190e778651eac68276ce3", func := "plait/plaitlaw04.RingTells", spec := "ringTells", unfollowed := true, recurses := true, plainKeys := false, apart := false }
def RingTellsSaid : Prop := ringTellsRow.holds Try.pinned (OpenSpec.ofChange ringTellsSpec)

/-- ITS FALSE NEIGHBOUR: 'it returns false'. Refute it at one input. -/
def ringTellsWrong : ChangeSpec := { name := "ringTells", fn := fun _ => fun
  | [d1, d2, d3] => { results := [.lit (.bool false)], args := [d1, d2, d3] }
  | _ => none }
def RingTellsWrongFalsely : Prop := ringTellsRow.holds Try.pinned (OpenSpec.ofChange ringTellsWrong)

/-- 'plaitlaw05.WaitsWho': WHATEVER THE INPUT: true; the input reads as it did. -/
def waitsWhoSpec : ChangeSpec := { name := "waitsWho", fn := fun _ => fun
  | [d1, d2] => { results := [.lit (.bool true)], args := [d1, d2] }
  | _ => none }
def waitsWhoRow : OpenClaim := { program := "ytegbkaaibgdheaa", sum := "4c5143a2cd35fa4cd276e7c37afb886d0a4bc7fa968190e778651eac68276ce3", func := "plait/plaitlaw05.WaitsWho", spec := "waitsWho", unfollowed := true, recurses := true, plainKeys := false, apart := false }
def WaitsWhoSaid : Prop := waitsWhoRow.holds Try.pinned (OpenSpec.ofChange waitsWhoSpec)

/-- ITS FALSE NEIGHBOUR: 'it returns false'. Refute it at one input. -/
def waitsWhoWrong : ChangeSpec := { name := "waitsWho", fn := fun _ => fun
  | [d1, d2] => { results := [.lit (.bool false)], args := [d1, d2] }
  | _ => none }
def WaitsWhoWrongFalsely : Prop := waitsWhoRow.holds Try.pinned (OpenSpec.ofChange waitsWhoWrong)

/-- 'plaitlaw10.LocksTell': WHATEVER THE INPUT: true; the input reads as it did. -/
def locksTellSpec : ChangeSpec := { name := "locksTell", fn := fun _ => fun
  | [d1, d2] => { results := [.lit (.bool true)], args := [d1, d2] }
  | _ => none }
def locksTellRow : OpenClaim := { program := "ytegbkaaibgdheaa", sum := "4c5143a2cd35fa4cd276e7c37afb886d0a4bc7fa968190e778651eac68276ce3", func := "plait/plaitlaw10.LocksTell", spec := "locksTell", unfollowed := true, recurses := true, plainKeys := false, apart := false }
def LocksTellSaid : Prop := locksTellRow.holds Try.pinned (OpenSpec.ofChange locksTellSpec)

/-- ITS FALSE NEIGHBOUR: 'it returns false'. Refute it at one input. -/
def locksTellWrong : ChangeSpec := { name := "locksTell", fn := fun _ => fun
  | [d1, d2] => { results := [.lit (.bool false)], args := [d1, d2] }
  | _ => none }
def LocksTellWrongFalsely : Prop := locksTellRow.holds Try.pinned (OpenSpec.ofChange locksTellWrong)

/-- 'plaitlaw10.LocksOrder': WHATEVER THE INPUT: true; the input reads as it did. -/
def locksOrderSpec : ChangeSpec := { name := "locksOrder", fn := fun _ => fun
  | [d] => { results := [.lit (.bool true)], args := [d] }
  | _ => none }
def locksOrderRow : OpenClaim := { program := "ytegbkaaibgdheaa", sum := "4c5143a2cd35fa4cd276e7c37afb886d0a4bc7fa968190e778651eac68276ce3", func := "plait/plaitlaw10.LocksOrder", spec := "locksOrder", unfollowed := true, recurses := true, plainKeys := false, apart := false }
def LocksOrderSaid : Prop := locksOrderRow.holds Try.pinned (OpenSpec.ofChange locksOrderSpec)

/-- ITS FALSE NEIGHBOUR: 'it returns false'. Refute it at one input. -/
def locksOrderWrong : ChangeSpec := { name := "locksOrder", fn := fun _ => fun
  | [d] => { results := [.lit (.bool false)], args := [d] }
  | _ => none }
def LocksOrderWrongFalsely : Prop := locksOrderRow.holds Try.pinned (OpenSpec.ofChange locksOrderWrong)

/-- 'plaitlaw05.WaitsTell': WHATEVER THE INPUT: true; the input reads as it did. -/
def waitsTellSpec : ChangeSpec := { name := "waitsTell", fn := fun _ => fun
  | [d1, d2, d3] => { results := [.lit (.bool true)], args := [d1, d2, d3] }
  | _ => none }
def waitsTellRow : OpenClaim := { program := "ytegbkaaibgdheaa", sum := "4c5143a2cd35fa4cd276e7c37afb886d0a4bc7fa968190e778651eac68276ce3", func := "plait/plaitlaw05.WaitsTell", spec := "waitsTell", unfollowed := true, recurses := true, plainKeys := false, apart := false }
def WaitsTellSaid : Prop := waitsTellRow.holds Try.pinned (OpenSpec.ofChange waitsTellSpec)

/-- ITS FALSE NEIGHBOUR: 'it returns false'. Refute it at one input. -/
def waitsTellWrong : ChangeSpec := { name := "waitsTell", fn := fun _ => fun
  | [d1, d2, d3] => { results := [.lit (.bool false)], args := [d1, d2, d3] }
  | _ => none }
def WaitsTellWrongFalsely : Prop := waitsTellRow.holds Try.pinned (OpenSpec.ofChange waitsTellWrong)

/-- 'plaitlaw11.OnceTells': WHATEVER THE INPUT: true; the input reads as it did. -/
def onceTellsSpec : ChangeSpec := { name := "onceTells", fn := fun _ => fun
  | [d1, d2, d3] => { results := [.lit (.bool true)], args := [d1, d2, d3] }
  | _ => none }
def onceTellsRow : OpenClaim := { program := "ytegbkaaibgdheaa", sum := "4c5143a2cd35fa4cd276e7c37afb886d0a4bc7fa968190e778651eac68276ce3", func := "plait/plaitlaw11.OnceTells", spec := "onceTells", unfollowed := true, recurses := true, plainKeys := false, apart := false }
def OnceTellsSaid : Prop := onceTellsRow.holds Try.pinned (OpenSpec.ofChange onceTellsSpec)

/-- ITS FALSE NEIGHBOUR: 'it returns false'. Refute it at one input. -/
def onceTellsWrong : ChangeSpec := { name := "onceTells", fn := fun _ => fun
  | [d1, d2, d3] => { results := [.lit (.bool false)], args := [d1, d2, d3] }
  | _ => none }
def OnceTellsWrongFalsely : Prop := onceTellsRow.holds Try.pinned (OpenSpec.ofChange onceTellsWrong)

/-- 'plaitlaw11.OnceIs': WHATEVER THE INPUT: true; the input reads as it did. -/
def onceIsSpec : ChangeSpec := { name := "onceIs", fn := fun _ => fun
  | [d] => { results := [.lit (.bool true)], args := [d] }
  | _ => none }
def onceIsRow : OpenClaim := { program := "ytegbkaaibgdheaa", sum := "4c5143a2cd35fa4cd276e7c37afb886d0a4bc7fa968190e778651eac68276ce3", func := "plait/plaitlaw11.OnceIs", spec := "onceIs", unfollowed := true, recurses := true, plainKeys := false, apart := false }
def OnceIsSaid : Prop := onceIsRow.holds Try.pinned (OpenSpec.ofChange onceIsSpec)

/-- ITS FALSE NEIGHBOUR: 'it returns false'. Refute it at one input. -/
def onceIsWrong : ChangeSpec := { name := "onceIs", fn := fun _ => fun
  | [d] => { results := [.lit (.bool false)], args := [d] }
  | _ => none }
def OnceIsWrongFalsely : Prop := onceIsRow.holds Try.pinned (OpenSpec.ofChange onceIsWrong)

/- THE SECOND FORM. 'bulk': how many values and letters a reading holds, each counted each time it is reached (what is shared counts as often as it is met; a slice's spare places count too). A statement '..UptoSaid' is the law's where the arguments, and the package variables that the reading takes, are together of bulk at most 1048576: NARROWER than '..Said'. Prove '..Said' where nothing that the law and all that it calls make is longer than what came in: it says more and counts as full. Else prove '..UptoSaid'. A law counts once. -/
mutual
def uptoBulk {H : Type} : DataW H → Nat
  | .lit (.string bytes) => bytes.length + 1
  | .lit _ => 1
  | .nil => 1
  | .ptr d => uptoBulk d + 1
  | .slice elems spare => uptoBulkAll elems + uptoBulkAll spare + 1
  | .agg parts => uptoBulkAll parts + 1
  | .iface _ d => uptoBulk d + 1
  | .map entries => uptoBulkEntries entries + 1
  | .held _ => 1
def uptoBulkAll {H : Type} : List (DataW H) → Nat
  | [] => 0
  | d :: r => uptoBulk d + uptoBulkAll r
def uptoBulkEntries {H : Type} : List (Lit × DataW H) → Nat
  | [] => 0
  | x :: r => uptoBulkEntry x + uptoBulkEntries r
def uptoBulkEntry {H : Type} : Lit × DataW H → Nat
  | (.string bytes, d) => bytes.length + uptoBulk d + 1
  | (_, d) => uptoBulk d + 1
 end
def uptoSmall : (H : Type) → List (DataW H) → Bool := fun _ ds => decide (uptoBulkAll ds ≤ 1048576)
def OpenSpec.upto (s : _root_.Go.ChangeSpec) : _root_.Go.OpenSpec := { _root_.Go.OpenSpec.ofChange s with cond := some uptoSmall }

/-- 'plaitlaw04.RingOrder', WHERE WHAT IT READS IS OF BULK AT MOST 1048576: true; the input reads as it did. -/
def ringOrderUptoRow : OpenClaim := { program := "ytegbkaaibgdheaa", sum := "4c5143a2cd35fa4cd276e7c37afb886d0a4bc7fa968190e778651eac68276ce3", func := "plait/plaitlaw04.RingOrder", spec := "ringOrder", unfollowed := true, recurses := true, plainKeys := false, apart := false, narrowed := true }
def RingOrderUptoSaid : Prop := ringOrderUptoRow.holds Try.pinned (OpenSpec.upto ringOrderSpec)

/-- 'plaitlaw04.RingGrows', WHERE WHAT IT READS IS OF BULK AT MOST 1048576: true; the input reads as it did. -/
def ringGrowsUptoRow : OpenClaim := { program := "ytegbkaaibgdheaa", sum := "4c5143a2cd35fa4cd276e7c37afb886d0a4bc7fa968190e778651eac68276ce3", func := "plait/plaitlaw04.RingGrows", spec := "ringGrows", unfollowed := true, recurses := true, plainKeys := false, apart := false, narrowed := true }
def RingGrowsUptoSaid : Prop := ringGrowsUptoRow.holds Try.pinned (OpenSpec.upto ringGrowsSpec)

/-- 'plaitlaw05.WaitsOrder', WHERE WHAT IT READS IS OF BULK AT MOST 1048576: true; the input reads as it did. -/
def waitsOrderUptoRow : OpenClaim := { program := "ytegbkaaibgdheaa", sum := "4c5143a2cd35fa4cd276e7c37afb886d0a4bc7fa968190e778651eac68276ce3", func := "plait/plaitlaw05.WaitsOrder", spec := "waitsOrder", unfollowed := true, recurses := true, plainKeys := false, apart := false, narrowed := true }
def WaitsOrderUptoSaid : Prop := waitsOrderUptoRow.holds Try.pinned (OpenSpec.upto waitsOrderSpec)

/-- 'plaitlaw04.RingTells', WHERE WHAT IT READS IS OF BULK AT MOST 1048576: true; the input reads as it did. -/
def ringTellsUptoRow : OpenClaim := { program := "ytegbkaaibgdheaa", sum := "4c5143a2cd35fa4cd276e7c37afb886d0a4bc7fa968190e778651eac68276ce3", func := "plait/plaitlaw04.RingTells", spec := "ringTells", unfollowed := true, recurses := true, plainKeys := false, apart := false, narrowed := true }
def RingTellsUptoSaid : Prop := ringTellsUptoRow.holds Try.pinned (OpenSpec.upto ringTellsSpec)

/-- 'plaitlaw05.WaitsWho', WHERE WHAT IT READS IS OF BULK AT MOST 1048576: true; the input reads as it did. -/
def waitsWhoUptoRow : OpenClaim := { program := "ytegbkaaibgdheaa", sum := "4c5143a2cd35fa4cd276e7c37afb886d0a4bc7fa968190e778651eac68276ce3", func := "plait/plaitlaw05.WaitsWho", spec := "waitsWho", unfollowed := true, recurses := true, plainKeys := false, apart := false, narrowed := true }
def WaitsWhoUptoSaid : Prop := waitsWhoUptoRow.holds Try.pinned (OpenSpec.upto waitsWhoSpec)

/-- 'plaitlaw10.LocksTell', WHERE WHAT IT READS IS OF BULK AT MOST 1048576: true; the input reads as it did. -/
def locksTellUptoRow : OpenClaim := { program := "ytegbkaaibgdheaa", sum := "4c5143a2cd35fa4cd276e7c37afb886d0a4bc7fa968190e778651eac68276ce3", func := "plait/plaitlaw10.LocksTell", spec := "locksTell", unfollowed := true, recurses := true, plainKeys := false, apart := false, narrowed := true }
def LocksTellUptoSaid : Prop := locksTellUptoRow.holds Try.pinned (OpenSpec.upto locksTellSpec)

/-- 'plaitlaw10.LocksOrder', WHERE WHAT IT READS IS OF BULK AT MOST 1048576: true; the input reads as it did. -/
def locksOrderUptoRow : OpenClaim := { program := "ytegbkaaibgdheaa", sum := "4c5143a2cd35fa4cd276e7c37afb886d0a4bc7fa968190e778651eac68276ce3", func := "plait/plaitlaw10.LocksOrder", spec := "locksOrder", unfollowed := true, recurses := true, plainKeys := false, apart := false, narrowed := true }
def LocksOrderUptoSaid : Prop := locksOrderUptoRow.holds Try.pinned (OpenSpec.upto locksOrderSpec)

/-- 'plaitlaw05.WaitsTell', WHERE WHAT IT READS IS OF BULK AT MOST 1048576: true; the input reads as it did. -/
def waitsTellUptoRow : OpenClaim := { program := "ytegbkaaibgdheaa", sum := "4c5143a2cd35fa4cd276e7c37afb886d0a4bc7fa968190e778651eac68276ce3", func := "plait/plaitlaw05.WaitsTell", spec := "waitsTell", unfollowed := true, recurses := true, plainKeys := false, apart := false, narrowed := true }
def WaitsTellUptoSaid : Prop := waitsTellUptoRow.holds Try.pinned (OpenSpec.upto waitsTellSpec)

/-- 'plaitlaw11.OnceTells', WHERE WHAT IT READS IS OF BULK AT MOST 1048576: true; the input reads as it did. -/
def onceTellsUptoRow : OpenClaim := { program := "ytegbkaaibgdheaa", sum := "4c5143a2cd35fa4cd276e7c37afb886d0a4bc7fa968190e778651eac68276ce3", func := "plait/plaitlaw11.OnceTells", spec := "onceTells", unfollowed := true, recurses := true, plainKeys := false, apart := false, narrowed := true }
def OnceTellsUptoSaid : Prop := onceTellsUptoRow.holds Try.pinned (OpenSpec.upto onceTellsSpec)

/-- 'plaitlaw11.OnceIs', WHERE WHAT IT READS IS OF BULK AT MOST 1048576: true; the input reads as it did. -/
def onceIsUptoRow : OpenClaim := { program := "ytegbkaaibgdheaa", sum := "4c5143a2cd35fa4cd276e7c37afb886d0a4bc7fa968190e778651eac68276ce3", func := "plait/plaitlaw11.OnceIs", spec := "onceIs", unfollowed := true, recurses := true, plainKeys := false, apart := false, narrowed := true }
def OnceIsUptoSaid : Prop := onceIsUptoRow.holds Try.pinned (OpenSpec.upto onceIsSpec)

end Rows
end Go.Proofs.Ytegbkaaibgdheaa
