/-
  No cell of these rows narrows 'for every input' (looked for: loops, veiled, ifaces, maps, wideKeys, modest, calm, conditions, laid).
  DERIVED. THE GIVEN ROWS OF THIS SEAT. 10 by the template 'for every input the law returns true; each argument reads behind the call as it read before'; 0 by the template 'total and deterministic' (their statements: YtifbgkikkiallaaGreatTotals.lean).
  GIVEN WITH THE SEED: the statements are not yours to turn. If you find one false, say at which input.
  Laid BY PROGRAM, IN A SANDBOX (cutbox-rows.mjs): the forced cells as the released guide's own fill.sh prints them over the translation bd0ec793171fae02… (all of the seat's roots in one cut). By AI agents, Wed Nov 11 2026. No macro, syntax, notation, axiom, sorry.
-/
import Derived.Test.YtifbgkikkiallaaGreatChecked
import GoSem.Claim
import GoSem.ClaimJoined
import GoSem.ClaimMapViews
import Derived.JoinedTies
import Derived.KernelRfl
namespace Go.Proofs.YtifbgkikkiallaaGreat
/- THE CELL 'sum', in the pinned program and in every row, IS THE sha256 OF THE DUMP (.gsa) THAT YtifbgkikkiallaaGreatProg.lean LOADS. Nothing in Lean hashes anything: it is a label: what it is worth is what the hold of that sum in a sandbox is worth. -/
noncomputable def Tryz.pinned : Pinned := { name := "ytifbgkikkiallaagreat", sum := "bd0ec793171fae0223ff456c6c48963e828b74008dbe0dcc0b46918d9566dd63", checked := Tryz.checked }
namespace Rows
def none {H : Type} : Left H := { results := [], args := [] }

/-- 'plaitlaw15.EdgesRun': WHATEVER THE INPUT: true; the input reads as it did. -/
def edgesRunSpec : ChangeSpec := { name := "edgesRun", fn := fun _ => fun
  | [d1, d2, d3] => { results := [.lit (.bool true)], args := [d1, d2, d3] }
  | _ => none }
def edgesRunRow : OpenClaim := { program := "ytifbgkikkiallaagreat", sum := "bd0ec793171fae0223ff456c6c48963e828b74008dbe0dcc0b46918d9566dd63", func := "plait/plaitlaw15.EdgesRun", spec := "edgesRun", unfollowed := true, recurses := true, plainKeys := false, apart := false }
def EdgesRunSaid : Prop := edgesRunRow.holds Tryz.pinned (OpenSpec.ofChange edgesRunSpec)

/-- ITS FALSE NEIGHBOUR: 'it returns false'. Refute it at one input. -/
def edgesRunWrong : ChangeSpec := { name := "edgesRun", fn := fun _ => fun
  | [d1, d2, d3] => { results := [.lit (.bool false)], args := [d1, d2, d3] }
  | _ => none }
def EdgesRunWrongFalsely : Prop := edgesRunRow.holds Tryz.pinned (OpenSpec.ofChange edgesRunWrong)

/-- 'plaitlaw16.StampCounts': WHATEVER THE INPUT: true; the input reads as it did. -/
def stampCountsSpec : ChangeSpec := { name := "stampCounts", fn := fun _ => fun
  | [d1, d2, d3] => { results := [.lit (.bool true)], args := [d1, d2, d3] }
  | _ => none }
def stampCountsRow : OpenClaim := { program := "ytifbgkikkiallaagreat", sum := "bd0ec793171fae0223ff456c6c48963e828b74008dbe0dcc0b46918d9566dd63", func := "plait/plaitlaw16.StampCounts", spec := "stampCounts", unfollowed := true, recurses := true, plainKeys := false, apart := false }
def StampCountsSaid : Prop := stampCountsRow.holds Tryz.pinned (OpenSpec.ofChange stampCountsSpec)

/-- ITS FALSE NEIGHBOUR: 'it returns false'. Refute it at one input. -/
def stampCountsWrong : ChangeSpec := { name := "stampCounts", fn := fun _ => fun
  | [d1, d2, d3] => { results := [.lit (.bool false)], args := [d1, d2, d3] }
  | _ => none }
def StampCountsWrongFalsely : Prop := stampCountsRow.holds Tryz.pinned (OpenSpec.ofChange stampCountsWrong)

/-- 'plaitlaw17.OrderTells': WHATEVER THE INPUT: true; the input reads as it did. -/
def orderTellsSpec : ChangeSpec := { name := "orderTells", fn := fun _ => fun
  | [d1, d2, d3, d4] => { results := [.lit (.bool true)], args := [d1, d2, d3, d4] }
  | _ => none }
def orderTellsRow : OpenClaim := { program := "ytifbgkikkiallaagreat", sum := "bd0ec793171fae0223ff456c6c48963e828b74008dbe0dcc0b46918d9566dd63", func := "plait/plaitlaw17.OrderTells", spec := "orderTells", unfollowed := true, recurses := true, plainKeys := false, apart := false }
def OrderTellsSaid : Prop := orderTellsRow.holds Tryz.pinned (OpenSpec.ofChange orderTellsSpec)

/-- ITS FALSE NEIGHBOUR: 'it returns false'. Refute it at one input. -/
def orderTellsWrong : ChangeSpec := { name := "orderTells", fn := fun _ => fun
  | [d1, d2, d3, d4] => { results := [.lit (.bool false)], args := [d1, d2, d3, d4] }
  | _ => none }
def OrderTellsWrongFalsely : Prop := orderTellsRow.holds Tryz.pinned (OpenSpec.ofChange orderTellsWrong)

/-- 'plaitlaw17.OrderClocks': WHATEVER THE INPUT: true; the input reads as it did. -/
def orderClocksSpec : ChangeSpec := { name := "orderClocks", fn := fun _ => fun
  | [d1, d2, d3, d4, d5] => { results := [.lit (.bool true)], args := [d1, d2, d3, d4, d5] }
  | _ => none }
def orderClocksRow : OpenClaim := { program := "ytifbgkikkiallaagreat", sum := "bd0ec793171fae0223ff456c6c48963e828b74008dbe0dcc0b46918d9566dd63", func := "plait/plaitlaw17.OrderClocks", spec := "orderClocks", unfollowed := true, recurses := true, plainKeys := false, apart := false }
def OrderClocksSaid : Prop := orderClocksRow.holds Tryz.pinned (OpenSpec.ofChange orderClocksSpec)

/-- ITS FALSE NEIGHBOUR: 'it returns false'. Refute it at one input. -/
def orderClocksWrong : ChangeSpec := { name := "orderClocks", fn := fun _ => fun
  | [d1, d2, d3, d4, d5] => { results := [.lit (.bool false)], args := [d1, d2, d3, d4, d5] }
  | _ => none }
def OrderClocksWrongFalsely : Prop := orderClocksRow.holds Tryz.pinned (OpenSpec.ofChange orderClocksWrong)

/-- 'plaitlaw17.OrderGoes': WHATEVER THE INPUT: true; the input reads as it did. -/
def orderGoesSpec : ChangeSpec := { name := "orderGoes", fn := fun _ => fun
  | [d1, d2, d3, d4, d5] => { results := [.lit (.bool true)], args := [d1, d2, d3, d4, d5] }
  | _ => none }
def orderGoesRow : OpenClaim := { program := "ytifbgkikkiallaagreat", sum := "bd0ec793171fae0223ff456c6c48963e828b74008dbe0dcc0b46918d9566dd63", func := "plait/plaitlaw17.OrderGoes", spec := "orderGoes", unfollowed := true, recurses := true, plainKeys := false, apart := false }
def OrderGoesSaid : Prop := orderGoesRow.holds Tryz.pinned (OpenSpec.ofChange orderGoesSpec)

/-- ITS FALSE NEIGHBOUR: 'it returns false'. Refute it at one input. -/
def orderGoesWrong : ChangeSpec := { name := "orderGoes", fn := fun _ => fun
  | [d1, d2, d3, d4, d5] => { results := [.lit (.bool false)], args := [d1, d2, d3, d4, d5] }
  | _ => none }
def OrderGoesWrongFalsely : Prop := orderGoesRow.holds Tryz.pinned (OpenSpec.ofChange orderGoesWrong)

/-- 'plaitlaw17.OrderCounts': WHATEVER THE INPUT: true; the input reads as it did. -/
def orderCountsSpec : ChangeSpec := { name := "orderCounts", fn := fun _ => fun
  | [d1, d2, d3, d4] => { results := [.lit (.bool true)], args := [d1, d2, d3, d4] }
  | _ => none }
def orderCountsRow : OpenClaim := { program := "ytifbgkikkiallaagreat", sum := "bd0ec793171fae0223ff456c6c48963e828b74008dbe0dcc0b46918d9566dd63", func := "plait/plaitlaw17.OrderCounts", spec := "orderCounts", unfollowed := true, recurses := true, plainKeys := false, apart := false }
def OrderCountsSaid : Prop := orderCountsRow.holds Tryz.pinned (OpenSpec.ofChange orderCountsSpec)

/-- ITS FALSE NEIGHBOUR: 'it returns false'. Refute it at one input. -/
def orderCountsWrong : ChangeSpec := { name := "orderCounts", fn := fun _ => fun
  | [d1, d2, d3, d4] => { results := [.lit (.bool false)], args := [d1, d2, d3, d4] }
  | _ => none }
def OrderCountsWrongFalsely : Prop := orderCountsRow.holds Tryz.pinned (OpenSpec.ofChange orderCountsWrong)

/-- 'plaitlaw18.RaceTells': WHATEVER THE INPUT: true; the input reads as it did. -/
def raceTellsSpec : ChangeSpec := { name := "raceTells", fn := fun _ => fun
  | [d1, d2, d3, d4] => { results := [.lit (.bool true)], args := [d1, d2, d3, d4] }
  | _ => none }
def raceTellsRow : OpenClaim := { program := "ytifbgkikkiallaagreat", sum := "bd0ec793171fae0223ff456c6c48963e828b74008dbe0dcc0b46918d9566dd63", func := "plait/plaitlaw18.RaceTells", spec := "raceTells", unfollowed := true, recurses := true, plainKeys := false, apart := false }
def RaceTellsSaid : Prop := raceTellsRow.holds Tryz.pinned (OpenSpec.ofChange raceTellsSpec)

/-- ITS FALSE NEIGHBOUR: 'it returns false'. Refute it at one input. -/
def raceTellsWrong : ChangeSpec := { name := "raceTells", fn := fun _ => fun
  | [d1, d2, d3, d4] => { results := [.lit (.bool false)], args := [d1, d2, d3, d4] }
  | _ => none }
def RaceTellsWrongFalsely : Prop := raceTellsRow.holds Tryz.pinned (OpenSpec.ofChange raceTellsWrong)

/-- 'plaitlaw18.RaceIs': WHATEVER THE INPUT: true; the input reads as it did. -/
def raceIsSpec : ChangeSpec := { name := "raceIs", fn := fun _ => fun
  | [d1, d2, d3, d4, d5] => { results := [.lit (.bool true)], args := [d1, d2, d3, d4, d5] }
  | _ => none }
def raceIsRow : OpenClaim := { program := "ytifbgkikkiallaagreat", sum := "bd0ec793171fae0223ff456c6c48963e828b74008dbe0dcc0b46918d9566dd63", func := "plait/plaitlaw18.RaceIs", spec := "raceIs", unfollowed := true, recurses := true, plainKeys := false, apart := false }
def RaceIsSaid : Prop := raceIsRow.holds Tryz.pinned (OpenSpec.ofChange raceIsSpec)

/-- ITS FALSE NEIGHBOUR: 'it returns false'. Refute it at one input. -/
def raceIsWrong : ChangeSpec := { name := "raceIs", fn := fun _ => fun
  | [d1, d2, d3, d4, d5] => { results := [.lit (.bool false)], args := [d1, d2, d3, d4, d5] }
  | _ => none }
def RaceIsWrongFalsely : Prop := raceIsRow.holds Tryz.pinned (OpenSpec.ofChange raceIsWrong)

/-- 'plaitlaw18.RaceStays': WHATEVER THE INPUT: true; the input reads as it did. -/
def raceStaysSpec : ChangeSpec := { name := "raceStays", fn := fun _ => fun
  | [d1, d2, d3, d4] => { results := [.lit (.bool true)], args := [d1, d2, d3, d4] }
  | _ => none }
def raceStaysRow : OpenClaim := { program := "ytifbgkikkiallaagreat", sum := "bd0ec793171fae0223ff456c6c48963e828b74008dbe0dcc0b46918d9566dd63", func := "plait/plaitlaw18.RaceStays", spec := "raceStays", unfollowed := true, recurses := true, plainKeys := false, apart := false }
def RaceStaysSaid : Prop := raceStaysRow.holds Tryz.pinned (OpenSpec.ofChange raceStaysSpec)

/-- ITS FALSE NEIGHBOUR: 'it returns false'. Refute it at one input. -/
def raceStaysWrong : ChangeSpec := { name := "raceStays", fn := fun _ => fun
  | [d1, d2, d3, d4] => { results := [.lit (.bool false)], args := [d1, d2, d3, d4] }
  | _ => none }
def RaceStaysWrongFalsely : Prop := raceStaysRow.holds Tryz.pinned (OpenSpec.ofChange raceStaysWrong)

/-- 'plaitlaw19.TallyTells': WHATEVER THE INPUT: true; the input reads as it did. -/
def tallyTellsSpec : ChangeSpec := { name := "tallyTells", fn := fun _ => fun
  | [d1, d2] => { results := [.lit (.bool true)], args := [d1, d2] }
  | _ => none }
def tallyTellsRow : OpenClaim := { program := "ytifbgkikkiallaagreat", sum := "bd0ec793171fae0223ff456c6c48963e828b74008dbe0dcc0b46918d9566dd63", func := "plait/plaitlaw19.TallyTells", spec := "tallyTells", unfollowed := true, recurses := true, plainKeys := false, apart := false }
def TallyTellsSaid : Prop := tallyTellsRow.holds Tryz.pinned (OpenSpec.ofChange tallyTellsSpec)

/-- ITS FALSE NEIGHBOUR: 'it returns false'. Refute it at one input. -/
def tallyTellsWrong : ChangeSpec := { name := "tallyTells", fn := fun _ => fun
  | [d1, d2] => { results := [.lit (.bool false)], args := [d1, d2] }
  | _ => none }
def TallyTellsWrongFalsely : Prop := tallyTellsRow.holds Tryz.pinned (OpenSpec.ofChange tallyTellsWrong)

/- THE SECOND FORM. 'bulk': how many values and letters a reading holds, each counted each time it is reached (what is shared counts as often as it is met; a slice's spare places count too). A statement '..UptoSaid' is the law's where the arguments, and the package variables that the reading takes, are together of bulk at most 1048576: NARROWER than '..Said'. Prove '..Said' where nothing that the law and all that it calls make is longer than what came in: it says more and counts as full. Else prove '..UptoSaid'. A law counts once. -/
mutual
def uptoBulk {H : Type} : DataW H → Nat
  | .lit (.string bytes) => bytes.length + 1
  | .lit _ => 1
  | .nil => 1
  | .ptr d => uptoBulk d + 1
  | .slice elems spare => uptoBulkAll elems + uptoBulkAll spare + 1
  | .agg parts => uptoBulkAll parts + 1
  | .iface _ d => uptoBulk d + 1
  | .map entries => uptoBulkEntries entries + 1
  | .held _ => 1
def uptoBulkAll {H : Type} : List (DataW H) → Nat
  | [] => 0
  | d :: r => uptoBulk d + uptoBulkAll r
def uptoBulkEntries {H : Type} : List (Lit × DataW H) → Nat
  | [] => 0
  | x :: r => uptoBulkEntry x + uptoBulkEntries r
def uptoBulkEntry {H : Type} : Lit × DataW H → Nat
  | (.string bytes, d) => bytes.length + uptoBulk d + 1
  | (_, d) => uptoBulk d + 1
 end
def uptoSmall : (H : Type) → List (DataW H) → Bool := fun _ ds => decide (uptoBulkAll ds ≤ 1048576)
def OpenSpec.upto (s : _root_.Go.ChangeSpec) : _root_.Go.OpenSpec := { _root_.Go.OpenSpec.ofChange s with cond := some uptoSmall }

/-- 'plaitlaw15.EdgesRun', WHERE WHAT IT READS IS OF BULK AT MOST 1048576: true; the input reads as it did. -/
def edgesRunUptoRow : OpenClaim := { program := "ytifbgkikkiallaagreat", sum := "bd0ec793171fae0223ff456c6c48963e828b74008dbe0dcc0b46918d9566dd63", func := "plait/plaitlaw15.EdgesRun", spec := "edgesRun", unfollowed := true, recurses := true, plainKeys := false, apart := false, narrowed := true }
def EdgesRunUptoSaid : Prop := edgesRunUptoRow.holds Tryz.pinned (OpenSpec.upto edgesRunSpec)

/-- 'plaitlaw16.StampCounts', WHERE WHAT IT READS IS OF BULK AT MOST 1048576: true; the input reads as it did. -/
def stampCountsUptoRow : OpenClaim := { program := "ytifbgkikkiallaagreat", sum := "bd0ec793171fae0223ff456c6c48963e828b74008dbe0dcc0b46918d9566dd63", func := "plait/plaitlaw16.StampCounts", spec := "stampCounts", unfollowed := true, recurses := true, plainKeys := false, apart := false, narrowed := true }
def StampCountsUptoSaid : Prop := stampCountsUptoRow.holds Tryz.pinned (OpenSpec.upto stampCountsSpec)

/-- 'plaitlaw17.OrderTells', WHERE WHAT IT READS IS OF BULK AT MOST 1048576: true; the input reads as it did. -/
def orderTellsUptoRow : OpenClaim := { program := "ytifbgkikkiallaagreat", sum := "bd0ec793171fae0223ff456c6c48963e828b74008dbe0dcc0b46918d9566dd63", func := "plait/plaitlaw17.OrderTells", spec := "orderTells", unfollowed := true, recurses := true, plainKeys := false, apart := false, narrowed := true }
def OrderTellsUptoSaid : Prop := orderTellsUptoRow.holds Tryz.pinned (OpenSpec.upto orderTellsSpec)

/-- 'plaitlaw17.OrderClocks', WHERE WHAT IT READS IS OF BULK AT MOST 1048576: true; the input reads as it did. -/
def orderClocksUptoRow : OpenClaim := { program := "ytifbgkikkiallaagreat", sum := "bd0ec793171fae0223ff456c6c48963e828b74008dbe0dcc0b46918d9566dd63", func := "plait/plaitlaw17.OrderClocks", spec := "orderClocks", unfollowed := true, recurses := true, plainKeys := false, apart := false, narrowed := true }
def OrderClocksUptoSaid : Prop := orderClocksUptoRow.holds Tryz.pinned (OpenSpec.upto orderClocksSpec)

/-- 'plaitlaw17.OrderGoes', WHERE WHAT IT READS IS OF BULK AT MOST 1048576: true; the input reads as it did. -/
def orderGoesUptoRow : OpenClaim := { program := "ytifbgkikkiallaagreat", sum := "bd0ec793171fae0223ff456c6c48963e828b74008dbe0dcc0b46918d9566dd63", func := "plait/plaitlaw17.OrderGoes", spec := "orderGoes", unfollowed := true, recurses := true, plainKeys := false, apart := false, narrowed := true }
def OrderGoesUptoSaid : Prop := orderGoesUptoRow.holds Tryz.pinned (OpenSpec.upto orderGoesSpec)

/-- 'plaitlaw17.OrderCounts', WHERE WHAT IT READS IS OF BULK AT MOST 1048576: true; the input reads as it did. -/
def orderCountsUptoRow : OpenClaim := { program := "ytifbgkikkiallaagreat", sum := "bd0ec793171fae0223ff456c6c48963e828b74008dbe0dcc0b46918d9566dd63", func := "plait/plaitlaw17.OrderCounts", spec := "orderCounts", unfollowed := true, recurses := true, plainKeys := false, apart := false, narrowed := true }
def OrderCountsUptoSaid : Prop := orderCountsUptoRow.holds Tryz.pinned (OpenSpec.upto orderCountsSpec)

/-- 'plaitlaw18.RaceTells', WHERE WHAT IT READS IS OF BULK AT MOST 1048576: true; the input reads as it did. -/
def raceTellsUptoRow : OpenClaim := { program := "ytifbgkikkiallaagreat", sum := "bd0ec793171fae0223ff456c6c48963e828b74008dbe0dcc0b46918d9566dd63", func := "plait/plaitlaw18.RaceTells", spec := "raceTells", unfollowed := true, recurses := true, plainKeys := false, apart := false, narrowed := true }
def RaceTellsUptoSaid : Prop := raceTellsUptoRow.holds Tryz.pinned (OpenSpec.upto raceTellsSpec)

/-- 'plaitlaw18.RaceIs', WHERE WHAT IT READS IS OF BULK AT MOST 1048576: true; the input reads as it did. -/
def raceIsUptoRow : OpenClaim := { program := "ytifbgkikkiallaagreat", sum := "bd0ec793171fae0223ff456c6c48963e828b74008dbe0dcc0b46918d9566dd63", func := "plait/plaitlaw18.RaceIs", spec := "raceIs", unfollowed := true, recurses := true, plainKeys := false, apart := false, narrowed := true }
def RaceIsUptoSaid : Prop := raceIsUptoRow.holds Tryz.pinned (OpenSpec.upto raceIsSpec)

/-- 'plaitlaw18.RaceStays', WHERE WHAT IT READS IS OF BULK AT MOST 1048576: true; the input reads as it did. -/
def raceStaysUptoRow : OpenClaim := { program := "ytifbgkikkiallaagreat", sum := "bd0ec793171fae0223ff456c6c48963e828b74008dbe0dcc0b46918d9566dd63", func := "plait/plaitlaw18.RaceStays", spec := "raceStays", unfollowed := true, recurses := true, plainKeys := false, apart := false, narrowed := true }
def RaceStaysUptoSaid : Prop := raceStaysUptoRow.holds Tryz.pinned (OpenSpec.upto raceStaysSpec)

/-- 'plaitlaw19.TallyTells', WHERE WHAT IT READS IS OF BULK AT MOST 1048576: true; the input reads as it did. -/
def tallyTellsUptoRow : OpenClaim := { program := "ytifbgkikkiallaagreat", sum := "bd0ec793171fae0223ff456c6c48963e828b74008dbe0dcc0b46918d9566dd63", func := "plait/plaitlaw19.TallyTells", spec := "tallyTells", unfollowed := true, recurses := true, plainKeys := false, apart := false, narrowed := true }
def TallyTellsUptoSaid : Prop := tallyTellsUptoRow.holds Tryz.pinned (OpenSpec.upto tallyTellsSpec)

end Rows
end Go.Proofs.YtifbgkikkiallaaGreat
