import Derived.Test.YtipmoncamnafbaaX0
import Derived.Outline
import Derived.Lib.Hide
import Derived.Shelf.Abstract
import Derived.LoopTactic
import Derived.Laws.CopyOwn
import Derived.Laws.Tables
import Derived.WalkSpells
set_option linter.unusedVariables false
set_option linter.unusedSimpArgs false
namespace Go.Proofs.Ytipmoncamnafbaa.X
open Go.RowKit
section
variable {P : Program} {ops : Array Oper} {rest : List Oper} {o : Oper} {a : Act} {w : World} {Q : Exit → Act → World → Prop}
/-- A whole row that the call owns is stored into: the world behind it gets a name. -/
theorem ev_store_row (hgd : o.guard = none) (ty : TypeId) (x y : Operand) (ho : o.op = .store ty x y)
    (g : Nat) (cells : Array Value) (hx : a.eval x = .pointer (some ⟨g, 0, none⟩)) (hy : a.eval y = .agg cells)
    (t : TypeId) (old : Array Value) (hg : w.heap[g]? = some (.cells old t (0, 0))) (hi : (P.info? ty).map (·.size) = some cells.size)
    (hold : old.size = cells.size) (h1 : cells.all (·.oneCell') = true) {B : Nat} {w0 : World} (hb : Below B w0 w) (hBg : B ≤ g)
    (h : ∀ w', Hid (w'.heap[g]? = some (.cells cells t (0, 0))) → Hid (Below B w0 w') → Hid (∀ k, k ≠ g → w'.heap[k]? = w.heap[k]?) → Hid (w'.heap.size = w.heap.size) → wpList P ops Q rest (a.put o.dst undef) w') :
    wpList P ops Q (o :: rest) a w :=
  wpList_store_row hgd ty x y ho g cells hx hy t old hg hi hold h1
    (h _ (setRow_heap w g old cells t (0, 0) hg) (below_setRow hb hBg cells) (fun k hk => setRow_other w g k cells hk) (size_setRow w g cells))
end
/-- A cell of an own row. -/
theorem row_cell {w : World} {g : Nat} {cs : Array Value} {t : TypeId} (hg : w.heap[g]? = some (.cells cs t (0, 0))) (k : Nat) {v : Value} (hv : cs[k]? = some v) :
    w.cell? ⟨g, k, none⟩ = some v := by rw [cell_of_row w g k cs t (0, 0) hg, hv]
theorem row_free {w : World} {g : Nat} {cs : Array Value} {t : TypeId} (hg : w.heap[g]? = some (.cells cs t (0, 0))) (k : Nat) : w.frozen? ⟨g, k, none⟩ = false := frozen_of_row w g k cs t hg
theorem row_set {w : World} {g : Nat} {cs : Array Value} {t : TypeId} (hg : w.heap[g]? = some (.cells cs t (0, 0))) (k : Nat) (v : Value) :
    (w.setCell ⟨g, k, none⟩ v).heap[g]? = some (.cells (cs.setIfInBounds k v) t (0, 0)) := heap_setCell_same w g k cs t v hg
theorem below_setCell {B : Nat} {w0 w : World} (hb : Below B w0 w) {g : Nat} (hBg : B ≤ g) (k : Nat) (v : Value) : Below B w0 (w.setCell ⟨g, k, none⟩ v) := hb.setCell hBg v
end Go.Proofs.Ytipmoncamnafbaa.X
