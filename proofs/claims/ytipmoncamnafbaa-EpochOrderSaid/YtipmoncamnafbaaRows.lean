/-
  No cell of these rows narrows 'for every input' (looked for: loops, veiled, ifaces, maps, wideKeys, modest, calm, conditions, laid).
  DERIVED. THE GIVEN ROWS OF THIS SEAT. 13 by the template 'for every input the law returns true; each argument reads behind the call as it read before'; 0 by the template 'total and deterministic' (their statements: YtipmoncamnafbaaTotals.lean).
  GIVEN WITH THE SEED: the statements are not yours to turn. If you find one false, say at which input.
  Laid BY PROGRAM, IN A SANDBOX (cutbox-rows.mjs): the forced cells as the released guide's own fill.sh prints them over the translation 7c47b4371f4d355e… (all of the seat's roots in one cut). By AI agents, Wed Nov 11 2026. No macro, syntax, notation, axiom, sorry.
-/
import Derived.Test.YtipmoncamnafbaaChecked
import GoSem.Claim
import GoSem.ClaimJoined
import GoSem.ClaimMapViews
import Derived.JoinedTies
import Derived.KernelRfl
namespace Go.Proofs.Ytipmoncamnafbaa
/- THE CELL 'sum', in the pinned program and in every row, IS THE sha256 OF THE DUMP (.gsa) THAT YtipmoncamnafbaaProg.lean LOADS. Nothing in Lean hashes anything: it is a label: what it is worth is what the hold of that sum in a sandbox is worth. -/
noncomputable def Try.pinned : Pinned := { name := "ytipmoncamnafbaa", sum := "7c47b4371f4d355e5b935fb19aeb4dded9c46febfe487a751d8c19c6c5e45a76", checked := Try.checked }
namespace Rows
def none {H : Type} : Left H := { results := [], args := [] }

/-- 'plaitlaw02.EpochTurns': WHATEVER THE INPUT: true; the input reads as it did. -/
def epochTurnsSpec : ChangeSpec := { name := "epochTurns", fn := fun _ => fun
  | [d1, d2, d3] => { results := [.lit (.bool true)], args := [d1, d2, d3] }
  | _ => none }
def epochTurnsRow : OpenClaim := { program := "ytipmoncamnafbaa", sum := "7c47b4371f4d355e5b935fb19aeb4dded9c46febfe487a751d8c19c6c5e45a76", func := "plait/plaitlaw02.EpochTurns", spec := "epochTurns", unfollowed := true, recurses := true, apart := false }
def EpochTurnsSaid : Prop := epochTurnsRow.holds Try.pinned (OpenSpec.ofChange epochTurnsSpec)

/-- ITS FALSE NEIGHBOUR: 'it returns false'. Refute it at one input. -/
def epochTurnsWrong : ChangeSpec := { name := "epochTurns", fn := fun _ => fun
  | [d1, d2, d3] => { results := [.lit (.bool false)], args := [d1, d2, d3] }
  | _ => none }
def EpochTurnsWrongFalsely : Prop := epochTurnsRow.holds Try.pinned (OpenSpec.ofChange epochTurnsWrong)

/-- 'plaitlaw02.EpochNarrows': WHATEVER THE INPUT: true; the input reads as it did. -/
def epochNarrowsSpec : ChangeSpec := { name := "epochNarrows", fn := fun _ => fun
  | [d1, d2, d3] => { results := [.lit (.bool true)], args := [d1, d2, d3] }
  | _ => none }
def epochNarrowsRow : OpenClaim := { program := "ytipmoncamnafbaa", sum := "7c47b4371f4d355e5b935fb19aeb4dded9c46febfe487a751d8c19c6c5e45a76", func := "plait/plaitlaw02.EpochNarrows", spec := "epochNarrows", unfollowed := true, recurses := true, apart := false }
def EpochNarrowsSaid : Prop := epochNarrowsRow.holds Try.pinned (OpenSpec.ofChange epochNarrowsSpec)

/-- ITS FALSE NEIGHBOUR: 'it returns false'. Refute it at one input. -/
def epochNarrowsWrong : ChangeSpec := { name := "epochNarrows", fn := fun _ => fun
  | [d1, d2, d3] => { results := [.lit (.bool false)], args := [d1, d2, d3] }
  | _ => none }
def EpochNarrowsWrongFalsely : Prop := epochNarrowsRow.holds Try.pinned (OpenSpec.ofChange epochNarrowsWrong)

/-- 'plaitlaw02.EpochOrder': WHATEVER THE INPUT: true; the input reads as it did. -/
def epochOrderSpec : ChangeSpec := { name := "epochOrder", fn := fun _ => fun
  | [d1, d2, d3, d4] => { results := [.lit (.bool true)], args := [d1, d2, d3, d4] }
  | _ => none }
def epochOrderRow : OpenClaim := { program := "ytipmoncamnafbaa", sum := "7c47b4371f4d355e5b935fb19aeb4dded9c46febfe487a751d8c19c6c5e45a76", func := "plait/plaitlaw02.EpochOrder", spec := "epochOrder", apart := false }
def EpochOrderSaid : Prop := epochOrderRow.holds Try.pinned (OpenSpec.ofChange epochOrderSpec)

/-- ITS FALSE NEIGHBOUR: 'it returns false'. Refute it at one input. -/
def epochOrderWrong : ChangeSpec := { name := "epochOrder", fn := fun _ => fun
  | [d1, d2, d3, d4] => { results := [.lit (.bool false)], args := [d1, d2, d3, d4] }
  | _ => none }
def EpochOrderWrongFalsely : Prop := epochOrderRow.holds Try.pinned (OpenSpec.ofChange epochOrderWrong)

/-- 'plaitlaw03.VarintOrder': WHATEVER THE INPUT: true; the input reads as it did. -/
def varintOrderSpec : ChangeSpec := { name := "varintOrder", fn := fun _ => fun
  | [d1, d2] => { results := [.lit (.bool true)], args := [d1, d2] }
  | _ => none }
def varintOrderRow : OpenClaim := { program := "ytipmoncamnafbaa", sum := "7c47b4371f4d355e5b935fb19aeb4dded9c46febfe487a751d8c19c6c5e45a76", func := "plait/plaitlaw03.VarintOrder", spec := "varintOrder", unfollowed := true, recurses := true, apart := false }
def VarintOrderSaid : Prop := varintOrderRow.holds Try.pinned (OpenSpec.ofChange varintOrderSpec)

/-- ITS FALSE NEIGHBOUR: 'it returns false'. Refute it at one input. -/
def varintOrderWrong : ChangeSpec := { name := "varintOrder", fn := fun _ => fun
  | [d1, d2] => { results := [.lit (.bool false)], args := [d1, d2] }
  | _ => none }
def VarintOrderWrongFalsely : Prop := varintOrderRow.holds Try.pinned (OpenSpec.ofChange varintOrderWrong)

/-- 'plaitlaw03.VarintTells': WHATEVER THE INPUT: true; the input reads as it did. -/
def varintTellsSpec : ChangeSpec := { name := "varintTells", fn := fun _ => fun
  | [d1, d2, d3] => { results := [.lit (.bool true)], args := [d1, d2, d3] }
  | _ => none }
def varintTellsRow : OpenClaim := { program := "ytipmoncamnafbaa", sum := "7c47b4371f4d355e5b935fb19aeb4dded9c46febfe487a751d8c19c6c5e45a76", func := "plait/plaitlaw03.VarintTells", spec := "varintTells", unfollowed := true, recurses := true, apart := false }
def VarintTellsSaid : Prop := varintTellsRow.holds Try.pinned (OpenSpec.ofChange varintTellsSpec)

/-- ITS FALSE NEIGHBOUR: 'it returns false'. Refute it at one input. -/
def varintTellsWrong : ChangeSpec := { name := "varintTells", fn := fun _ => fun
  | [d1, d2, d3] => { results := [.lit (.bool false)], args := [d1, d2, d3] }
  | _ => none }
def VarintTellsWrongFalsely : Prop := varintTellsRow.holds Try.pinned (OpenSpec.ofChange varintTellsWrong)

/-- 'plaitlaw01.VclockJoins': WHATEVER THE INPUT: true; the input reads as it did. -/
def vclockJoinsSpec : ChangeSpec := { name := "vclockJoins", fn := fun _ => fun
  | [d1, d2, d3] => { results := [.lit (.bool true)], args := [d1, d2, d3] }
  | _ => none }
def vclockJoinsRow : OpenClaim := { program := "ytipmoncamnafbaa", sum := "7c47b4371f4d355e5b935fb19aeb4dded9c46febfe487a751d8c19c6c5e45a76", func := "plait/plaitlaw01.VclockJoins", spec := "vclockJoins", unfollowed := true, recurses := true, apart := false }
def VclockJoinsSaid : Prop := vclockJoinsRow.holds Try.pinned (OpenSpec.ofChange vclockJoinsSpec)

/-- ITS FALSE NEIGHBOUR: 'it returns false'. Refute it at one input. -/
def vclockJoinsWrong : ChangeSpec := { name := "vclockJoins", fn := fun _ => fun
  | [d1, d2, d3] => { results := [.lit (.bool false)], args := [d1, d2, d3] }
  | _ => none }
def VclockJoinsWrongFalsely : Prop := vclockJoinsRow.holds Try.pinned (OpenSpec.ofChange vclockJoinsWrong)

/-- 'plaitlaw01.VclockTrims': WHATEVER THE INPUT: true; the input reads as it did. -/
def vclockTrimsSpec : ChangeSpec := { name := "vclockTrims", fn := fun _ => fun
  | [d1, d2] => { results := [.lit (.bool true)], args := [d1, d2] }
  | _ => none }
def vclockTrimsRow : OpenClaim := { program := "ytipmoncamnafbaa", sum := "7c47b4371f4d355e5b935fb19aeb4dded9c46febfe487a751d8c19c6c5e45a76", func := "plait/plaitlaw01.VclockTrims", spec := "vclockTrims", unfollowed := true, recurses := true, apart := false }
def VclockTrimsSaid : Prop := vclockTrimsRow.holds Try.pinned (OpenSpec.ofChange vclockTrimsSpec)

/-- ITS FALSE NEIGHBOUR: 'it returns false'. Refute it at one input. -/
def vclockTrimsWrong : ChangeSpec := { name := "vclockTrims", fn := fun _ => fun
  | [d1, d2] => { results := [.lit (.bool false)], args := [d1, d2] }
  | _ => none }
def VclockTrimsWrongFalsely : Prop := vclockTrimsRow.holds Try.pinned (OpenSpec.ofChange vclockTrimsWrong)

/-- 'plaitlaw03.VarintEvery': WHATEVER THE INPUT: true; the input reads as it did. -/
def varintEverySpec : ChangeSpec := { name := "varintEvery", fn := fun _ => fun
  | [d1, d2] => { results := [.lit (.bool true)], args := [d1, d2] }
  | _ => none }
def varintEveryRow : OpenClaim := { program := "ytipmoncamnafbaa", sum := "7c47b4371f4d355e5b935fb19aeb4dded9c46febfe487a751d8c19c6c5e45a76", func := "plait/plaitlaw03.VarintEvery", spec := "varintEvery", unfollowed := true, recurses := true, apart := false }
def VarintEverySaid : Prop := varintEveryRow.holds Try.pinned (OpenSpec.ofChange varintEverySpec)

/-- ITS FALSE NEIGHBOUR: 'it returns false'. Refute it at one input. -/
def varintEveryWrong : ChangeSpec := { name := "varintEvery", fn := fun _ => fun
  | [d1, d2] => { results := [.lit (.bool false)], args := [d1, d2] }
  | _ => none }
def VarintEveryWrongFalsely : Prop := varintEveryRow.holds Try.pinned (OpenSpec.ofChange varintEveryWrong)

/-- 'plaitlaw02.EpochTells': WHATEVER THE INPUT: true; the input reads as it did. -/
def epochTellsSpec : ChangeSpec := { name := "epochTells", fn := fun _ => fun
  | [d1, d2, d3, d4] => { results := [.lit (.bool true)], args := [d1, d2, d3, d4] }
  | _ => none }
def epochTellsRow : OpenClaim := { program := "ytipmoncamnafbaa", sum := "7c47b4371f4d355e5b935fb19aeb4dded9c46febfe487a751d8c19c6c5e45a76", func := "plait/plaitlaw02.EpochTells", spec := "epochTells", unfollowed := true, recurses := true, apart := false }
def EpochTellsSaid : Prop := epochTellsRow.holds Try.pinned (OpenSpec.ofChange epochTellsSpec)

/-- ITS FALSE NEIGHBOUR: 'it returns false'. Refute it at one input. -/
def epochTellsWrong : ChangeSpec := { name := "epochTells", fn := fun _ => fun
  | [d1, d2, d3, d4] => { results := [.lit (.bool false)], args := [d1, d2, d3, d4] }
  | _ => none }
def EpochTellsWrongFalsely : Prop := epochTellsRow.holds Try.pinned (OpenSpec.ofChange epochTellsWrong)

/-- 'plaitlaw03.VarintBack': WHATEVER THE INPUT: true; the input reads as it did. -/
def varintBackSpec : ChangeSpec := { name := "varintBack", fn := fun _ => fun
  | [d1, d2, d3, d4] => { results := [.lit (.bool true)], args := [d1, d2, d3, d4] }
  | _ => none }
def varintBackRow : OpenClaim := { program := "ytipmoncamnafbaa", sum := "7c47b4371f4d355e5b935fb19aeb4dded9c46febfe487a751d8c19c6c5e45a76", func := "plait/plaitlaw03.VarintBack", spec := "varintBack", unfollowed := true, recurses := true, apart := false }
def VarintBackSaid : Prop := varintBackRow.holds Try.pinned (OpenSpec.ofChange varintBackSpec)

/-- ITS FALSE NEIGHBOUR: 'it returns false'. Refute it at one input. -/
def varintBackWrong : ChangeSpec := { name := "varintBack", fn := fun _ => fun
  | [d1, d2, d3, d4] => { results := [.lit (.bool false)], args := [d1, d2, d3, d4] }
  | _ => none }
def VarintBackWrongFalsely : Prop := varintBackRow.holds Try.pinned (OpenSpec.ofChange varintBackWrong)

/-- 'plaitlaw03.VarintJoins': WHATEVER THE INPUT: true; the input reads as it did. -/
def varintJoinsSpec : ChangeSpec := { name := "varintJoins", fn := fun _ => fun
  | [d1, d2, d3] => { results := [.lit (.bool true)], args := [d1, d2, d3] }
  | _ => none }
def varintJoinsRow : OpenClaim := { program := "ytipmoncamnafbaa", sum := "7c47b4371f4d355e5b935fb19aeb4dded9c46febfe487a751d8c19c6c5e45a76", func := "plait/plaitlaw03.VarintJoins", spec := "varintJoins", unfollowed := true, recurses := true, apart := false }
def VarintJoinsSaid : Prop := varintJoinsRow.holds Try.pinned (OpenSpec.ofChange varintJoinsSpec)

/-- ITS FALSE NEIGHBOUR: 'it returns false'. Refute it at one input. -/
def varintJoinsWrong : ChangeSpec := { name := "varintJoins", fn := fun _ => fun
  | [d1, d2, d3] => { results := [.lit (.bool false)], args := [d1, d2, d3] }
  | _ => none }
def VarintJoinsWrongFalsely : Prop := varintJoinsRow.holds Try.pinned (OpenSpec.ofChange varintJoinsWrong)

/-- 'plaitlaw01.VclockTells': WHATEVER THE INPUT: true; the input reads as it did. -/
def vclockTellsSpec : ChangeSpec := { name := "vclockTells", fn := fun _ => fun
  | [d1, d2, d3] => { results := [.lit (.bool true)], args := [d1, d2, d3] }
  | _ => none }
def vclockTellsRow : OpenClaim := { program := "ytipmoncamnafbaa", sum := "7c47b4371f4d355e5b935fb19aeb4dded9c46febfe487a751d8c19c6c5e45a76", func := "plait/plaitlaw01.VclockTells", spec := "vclockTells", unfollowed := true, recurses := true, apart := false }
def VclockTellsSaid : Prop := vclockTellsRow.holds Try.pinned (OpenSpec.ofChange vclockTellsSpec)

/-- ITS FALSE NEIGHBOUR: 'it returns false'. Refute it at one input. -/
def vclockTellsWrong : ChangeSpec := { name := "vclockTells", fn := fun _ => fun
  | [d1, d2, d3] => { results := [.lit (.bool false)], args := [d1, d2, d3] }
  | _ => none }
def VclockTellsWrongFalsely : Prop := vclockTellsRow.holds Try.pinned (OpenSpec.ofChange vclockTellsWrong)

/-- 'plaitlaw02.EpochKnows': WHATEVER THE INPUT: true; the input reads as it did. -/
def epochKnowsSpec : ChangeSpec := { name := "epochKnows", fn := fun _ => fun
  | [d1, d2, d3] => { results := [.lit (.bool true)], args := [d1, d2, d3] }
  | _ => none }
def epochKnowsRow : OpenClaim := { program := "ytipmoncamnafbaa", sum := "7c47b4371f4d355e5b935fb19aeb4dded9c46febfe487a751d8c19c6c5e45a76", func := "plait/plaitlaw02.EpochKnows", spec := "epochKnows", unfollowed := true, recurses := true, apart := false }
def EpochKnowsSaid : Prop := epochKnowsRow.holds Try.pinned (OpenSpec.ofChange epochKnowsSpec)

/-- ITS FALSE NEIGHBOUR: 'it returns false'. Refute it at one input. -/
def epochKnowsWrong : ChangeSpec := { name := "epochKnows", fn := fun _ => fun
  | [d1, d2, d3] => { results := [.lit (.bool false)], args := [d1, d2, d3] }
  | _ => none }
def EpochKnowsWrongFalsely : Prop := epochKnowsRow.holds Try.pinned (OpenSpec.ofChange epochKnowsWrong)

/- THE SECOND FORM. 'bulk': how many values and letters a reading holds, each counted each time it is reached (what is shared counts as often as it is met; a slice's spare places count too). A statement '..UptoSaid' is the law's where the arguments, and the package variables that the reading takes, are together of bulk at most 1048576: NARROWER than '..Said'. Prove '..Said' where nothing that the law and all that it calls make is longer than what came in: it says more and counts as full. Else prove '..UptoSaid'. A law counts once. -/
mutual
def uptoBulk {H : Type} : DataW H → Nat
  | .lit (.string bytes) => bytes.length + 1
  | .lit _ => 1
  | .nil => 1
  | .ptr d => uptoBulk d + 1
  | .slice elems spare => uptoBulkAll elems + uptoBulkAll spare + 1
  | .agg parts => uptoBulkAll parts + 1
  | .iface _ d => uptoBulk d + 1
  | .map entries => uptoBulkEntries entries + 1
  | .held _ => 1
def uptoBulkAll {H : Type} : List (DataW H) → Nat
  | [] => 0
  | d :: r => uptoBulk d + uptoBulkAll r
def uptoBulkEntries {H : Type} : List (Lit × DataW H) → Nat
  | [] => 0
  | x :: r => uptoBulkEntry x + uptoBulkEntries r
def uptoBulkEntry {H : Type} : Lit × DataW H → Nat
  | (.string bytes, d) => bytes.length + uptoBulk d + 1
  | (_, d) => uptoBulk d + 1
 end
def uptoSmall : (H : Type) → List (DataW H) → Bool := fun _ ds => decide (uptoBulkAll ds ≤ 1048576)
def OpenSpec.upto (s : _root_.Go.ChangeSpec) : _root_.Go.OpenSpec := { _root_.Go.OpenSpec.ofChange s with cond := some uptoSmall }

/-- 'plaitlaw02.EpochTurns', WHERE WHAT IT READS IS OF BULK AT MOST 1048576: true; the input reads as it did. -/
def epochTurnsUptoRow : OpenClaim := { program := "ytipmoncamnafbaa", sum := "7c47b4371f4d355e5b935fb19aeb4dded9c46febfe487a751d8c19c6c5e45a76", func := "plait/plaitlaw02.EpochTurns", spec := "epochTurns", unfollowed := true, recurses := true, apart := false, narrowed := true }
def EpochTurnsUptoSaid : Prop := epochTurnsUptoRow.holds Try.pinned (OpenSpec.upto epochTurnsSpec)

/-- 'plaitlaw02.EpochNarrows', WHERE WHAT IT READS IS OF BULK AT MOST 1048576: true; the input reads as it did. -/
def epochNarrowsUptoRow : OpenClaim := { program := "ytipmoncamnafbaa", sum := "7c47b4371f4d355e5b935fb19aeb4dded9c46febfe487a751d8c19c6c5e45a76", func := "plait/plaitlaw02.EpochNarrows", spec := "epochNarrows", unfollowed := true, recurses := true, apart := false, narrowed := true }
def EpochNarrowsUptoSaid : Prop := epochNarrowsUptoRow.holds Try.pinned (OpenSpec.upto epochNarrowsSpec)

/-- 'plaitlaw02.EpochOrder', WHERE WHAT IT READS IS OF BULK AT MOST 1048576: true; the input reads as it did. -/
def epochOrderUptoRow : OpenClaim := { program := "ytipmoncamnafbaa", sum := "7c47b4371f4d355e5b935fb19aeb4dded9c46febfe487a751d8c19c6c5e45a76", func := "plait/plaitlaw02.EpochOrder", spec := "epochOrder", apart := false, narrowed := true }
def EpochOrderUptoSaid : Prop := epochOrderUptoRow.holds Try.pinned (OpenSpec.upto epochOrderSpec)

/-- 'plaitlaw03.VarintOrder', WHERE WHAT IT READS IS OF BULK AT MOST 1048576: true; the input reads as it did. -/
def varintOrderUptoRow : OpenClaim := { program := "ytipmoncamnafbaa", sum := "7c47b4371f4d355e5b935fb19aeb4dded9c46febfe487a751d8c19c6c5e45a76", func := "plait/plaitlaw03.VarintOrder", spec := "varintOrder", unfollowed := true, recurses := true, apart := false, narrowed := true }
def VarintOrderUptoSaid : Prop := varintOrderUptoRow.holds Try.pinned (OpenSpec.upto varintOrderSpec)

/-- 'plaitlaw03.VarintTells', WHERE WHAT IT READS IS OF BULK AT MOST 1048576: true; the input reads as it did. -/
def varintTellsUptoRow : OpenClaim := { program := "ytipmoncamnafbaa", sum := "7c47b4371f4d355e5b935fb19aeb4dded9c46febfe487a751d8c19c6c5e45a76", func := "plait/plaitlaw03.VarintTells", spec := "varintTells", unfollowed := true, recurses := true, apart := false, narrowed := true }
def VarintTellsUptoSaid : Prop := varintTellsUptoRow.holds Try.pinned (OpenSpec.upto varintTellsSpec)

/-- 'plaitlaw01.VclockJoins', WHERE WHAT IT READS IS OF BULK AT MOST 1048576: true; the input reads as it did. -/
def vclockJoinsUptoRow : OpenClaim := { program := "ytipmoncamnafbaa", sum := "7c47b4371f4d355e5b935fb19aeb4dded9c46febfe487a751d8c19c6c5e45a76", func := "plait/plaitlaw01.VclockJoins", spec := "vclockJoins", unfollowed := true, recurses := true, apart := false, narrowed := true }
def VclockJoinsUptoSaid : Prop := vclockJoinsUptoRow.holds Try.pinned (OpenSpec.upto vclockJoinsSpec)

/-- 'plaitlaw01.VclockTrims', WHERE WHAT IT READS IS OF BULK AT MOST 1048576: true; the input reads as it did. -/
def vclockTrimsUptoRow : OpenClaim := { program := "ytipmoncamnafbaa", sum := "7c47b4371f4d355e5b935fb19aeb4dded9c46febfe487a751d8c19c6c5e45a76", func := "plait/plaitlaw01.VclockTrims", spec := "vclockTrims", unfollowed := true, recurses := true, apart := false, narrowed := true }
def VclockTrimsUptoSaid : Prop := vclockTrimsUptoRow.holds Try.pinned (OpenSpec.upto vclockTrimsSpec)

/-- 'plaitlaw03.VarintEvery', WHERE WHAT IT READS IS OF BULK AT MOST 1048576: true; the input reads as it did. -/
def varintEveryUptoRow : OpenClaim := { program := "ytipmoncamnafbaa", sum := "7c47b4371f4d355e5b935fb19aeb4dded9c46febfe487a751d8c19c6c5e45a76", func := "plait/plaitlaw03.VarintEvery", spec := "varintEvery", unfollowed := true, recurses := true, apart := false, narrowed := true }
def VarintEveryUptoSaid : Prop := varintEveryUptoRow.holds Try.pinned (OpenSpec.upto varintEverySpec)

/-- 'plaitlaw02.EpochTells', WHERE WHAT IT READS IS OF BULK AT MOST 1048576: true; the input reads as it did. -/
def epochTellsUptoRow : OpenClaim := { program := "ytipmoncamnafbaa", sum := "7c47b4371f4d355e5b935fb19aeb4dded9c46febfe487a751d8c19c6c5e45a76", func := "plait/plaitlaw02.EpochTells", spec := "epochTells", unfollowed := true, recurses := true, apart := false, narrowed := true }
def EpochTellsUptoSaid : Prop := epochTellsUptoRow.holds Try.pinned (OpenSpec.upto epochTellsSpec)

/-- 'plaitlaw03.VarintBack', WHERE WHAT IT READS IS OF BULK AT MOST 1048576: true; the input reads as it did. -/
def varintBackUptoRow : OpenClaim := { program := "ytipmoncamnafbaa", sum := "7c47b4371f4d355e5b935fb19aeb4dded9c46febfe487a751d8c19c6c5e45a76", func := "plait/plaitlaw03.VarintBack", spec := "varintBack", unfollowed := true, recurses := true, apart := false, narrowed := true }
def VarintBackUptoSaid : Prop := varintBackUptoRow.holds Try.pinned (OpenSpec.upto varintBackSpec)

/-- 'plaitlaw03.VarintJoins', WHERE WHAT IT READS IS OF BULK AT MOST 1048576: true; the input reads as it did. -/
def varintJoinsUptoRow : OpenClaim := { program := "ytipmoncamnafbaa", sum := "7c47b4371f4d355e5b935fb19aeb4dded9c46febfe487a751d8c19c6c5e45a76", func := "plait/plaitlaw03.VarintJoins", spec := "varintJoins", unfollowed := true, recurses := true, apart := false, narrowed := true }
def VarintJoinsUptoSaid : Prop := varintJoinsUptoRow.holds Try.pinned (OpenSpec.upto varintJoinsSpec)

/-- 'plaitlaw01.VclockTells', WHERE WHAT IT READS IS OF BULK AT MOST 1048576: true; the input reads as it did. -/
def vclockTellsUptoRow : OpenClaim := { program := "ytipmoncamnafbaa", sum := "7c47b4371f4d355e5b935fb19aeb4dded9c46febfe487a751d8c19c6c5e45a76", func := "plait/plaitlaw01.VclockTells", spec := "vclockTells", unfollowed := true, recurses := true, apart := false, narrowed := true }
def VclockTellsUptoSaid : Prop := vclockTellsUptoRow.holds Try.pinned (OpenSpec.upto vclockTellsSpec)

/-- 'plaitlaw02.EpochKnows', WHERE WHAT IT READS IS OF BULK AT MOST 1048576: true; the input reads as it did. -/
def epochKnowsUptoRow : OpenClaim := { program := "ytipmoncamnafbaa", sum := "7c47b4371f4d355e5b935fb19aeb4dded9c46febfe487a751d8c19c6c5e45a76", func := "plait/plaitlaw02.EpochKnows", spec := "epochKnows", unfollowed := true, recurses := true, apart := false, narrowed := true }
def EpochKnowsUptoSaid : Prop := epochKnowsUptoRow.holds Try.pinned (OpenSpec.upto epochKnowsSpec)

end Rows
end Go.Proofs.Ytipmoncamnafbaa
