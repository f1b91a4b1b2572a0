/- The engine, part 10: new rows. -/
import Derived.Test.YtkeolcgggondnaaVx9
set_option linter.unusedVariables false
set_option linter.unusedSimpArgs false
namespace Go.Proofs.Ytkeolcgggondnaa.VX
section
variable {P : Program} {C : Ctx} {X : Nat → Prop} {R : Type} {o : Oper} {a : Act} {w : World} {g : G} {m : Mem} {k kp : AV → Mem → Nat → Option R} {r : R} {fr : Fr}
def catCells : List (Nat × Value) → List Value
  | [] => []
  | p :: l => p.2.cells.toList ++ catCells l
theorem catCells_len {sz : Nat} : ∀ (l : List (Nat × Value)), (∀ p ∈ l, p.2.cells.size = sz) → (catCells l).length = l.length * sz
  | [], _ => by simp [catCells]
  | p :: l, h => by
    have := catCells_len l (fun q hq => h q (by simp [hq]))
    have h0 := h p (by simp)
    simp only [catCells, List.length_append, Array.length_toList, List.length_cons, this, h0, Nat.add_mul]; omega
theorem fill_row {sz : Nat} : ∀ (l : List (Nat × Value)) (j : Nat) (cells : Array Value), (∀ (i : Nat) (p : Nat × Value), l[i]? = some p → p.1 = j + i) → (∀ p ∈ l, p.2.cells.size = sz) → (j + l.length) * sz ≤ cells.size →
    ∃ c', Instr.fill (fun i => some (i * sz, sz)) cells l = some c' ∧ c'.toList = cells.toList.take (j * sz) ++ catCells l ++ cells.toList.drop ((j + l.length) * sz)
  | [], j, cells, _, _, _ => ⟨cells, rfl, by simp [catCells]⟩
  | (i, v) :: l, j, cells, hi, hs, hc => by
    have h0 : i = j := by simpa using hi 0 _ rfl
    subst h0
    have hv : v.cells.size = sz := hs (i, v) (by simp)
    have hvl : v.cells.toList.length = sz := by simpa using hv
    have hle : (i + 1) * sz ≤ (i + (l.length + 1)) * sz := Nat.mul_le_mul_right _ (by omega)
    rw [Nat.add_mul i 1, Nat.one_mul] at hle
    simp only [List.length_cons] at hc
    have hfold := foldl_splice v.cells.toList cells (i * sz) 0 (by simp only [Array.length_toList]; omega)
    simp only [Nat.add_zero, Array.length_toList, hv] at hfold
    generalize hF : (v.cells.toList.zipIdx 0).foldl (fun cs (p : Value × Nat) => cs.setIfInBounds (i * sz + p.2) p.1) cells = cells1 at hfold
    have hsz : cells1.size = cells.size := by
      have := congrArg List.length hfold
      simp only [Array.length_toList, List.length_append, List.length_take, List.length_drop, hv] at this
      omega
    obtain ⟨c', h1, h2⟩ := fill_row l (i + 1) cells1 (fun jj p h => by have := hi (jj + 1) p (by simpa using h); omega) (fun p hp => hs p (by simp [hp])) (by rw [hsz]; rw [show i + 1 + l.length = i + (l.length + 1) by omega]; exact hc)
    refine ⟨c', ?_, ?_⟩
    · unfold Instr.fill
      simp only
      rw [if_neg (by simp only [ne_eq, Bool.or_eq_true, decide_eq_true_eq]; omega)]
      rw [← h1, ← hF]
      congr 1
      rw [← Array.foldl_toList, Array.toList_zipIdx]
    · rw [h2, hfold, catCells]
      have e1 : (i + 1) * sz = i * sz + sz := by rw [Nat.add_mul, Nat.one_mul]
      have hl1 : (cells.toList.take (i * sz)).length = i * sz := by rw [List.length_take, Array.length_toList]; omega
      have e2 : ((cells.toList.take (i * sz) ++ v.cells.toList) ++ cells.toList.drop (i * sz + sz)).take ((i + 1) * sz) = cells.toList.take (i * sz) ++ v.cells.toList := by
        rw [List.take_append_of_le_length (by rw [List.length_append, hl1, hvl]; omega), List.take_of_length_le (by rw [List.length_append, hl1, hvl]; omega)]
      rw [e2, List.drop_append, List.drop_of_length_le (by rw [List.length_append, hl1, hvl, Nat.add_mul]; omega), List.nil_append, List.drop_drop, List.length_append, hl1, hvl]
      rw [show i * sz + sz + ((i + 1 + l.length) * sz - (i * sz + sz)) = (i + (l.length + 1)) * sz by
        have : i * sz + sz ≤ (i + 1 + l.length) * sz := by rw [show i + 1 + l.length = i + (l.length + 1) by omega]; omega
        rw [show i + (l.length + 1) = i + 1 + l.length by omega]; omega]
      simp
theorem rowOf_ok {ok : Nat → Prop} {t : Ty} (hf : ∀ τ, BOK g w ok τ (mget τ m)) : ∀ (l : List (Nat × AV)) (vs : List (Nat × Value)), l.length = vs.length → (∀ (j : Nat) (x : Nat × AV) (v : Nat × Value), l[j]? = some x → vs[j]? = some v → x.1 = v.1 ∧ RV g w ok x.2 v.2) →
    ∀ (j : Nat) (xs : List t.T), rowOf m t l j = some xs → xs.length = l.length ∧ (∀ (i : Nat) (p : Nat × Value), vs[i]? = some p → p.1 = j + i) ∧ (∀ p ∈ vs, p.2.cells.size = t.size) ∧ RdL (Rd w ok t) xs (catCells vs)
  | [], [], _, _, j, xs, h => by
    simp only [rowOf] at h; cases h
    exact ⟨rfl, by simp, by simp, rfl⟩
  | (i, v) :: l, (i', u) :: vs, hl, he, j, xs, h => by
    obtain ⟨e1, e2⟩ := he 0 _ _ rfl rfl
    simp only at e1 e2
    subst e1
    simp only [rowOf] at h
    obtain ⟨hb, h⟩ := bif_some h
    rw [Bool.and_eq_true] at hb
    have hij := Nat.eq_of_beq_eq_true hb.1
    subst hij
    split at h
    · rename_i x hx
      split at h
      · rename_i ys hys
        cases h
        obtain ⟨k1, k2, k3, k4⟩ := rowOf_ok hf l vs (by simpa using hl) (fun jj y v h1 h2 => he (jj + 1) y v (by simpa using h1) (by simpa using h2)) (i + 1) ys hys
        have hd := data_ok hf v t x hx _ (RV_cells hb.2 e2)
        have hz : u.cells.size = t.size := by have := Rd_len w ok t x _ hd; simpa using this
        refine ⟨by simp [k1], fun jj p hp => ?_, fun p hp => ?_, ⟨_, _, rfl, hd, k4⟩⟩
        · cases jj with
          | zero => simp at hp; subst hp; rfl
          | succ jj => have := k2 jj p (by simpa using hp); omega
        · rcases List.mem_cons.1 hp with rfl | hp
          · exact hz
          · exact k3 p hp
      · cases h
    · cases h
  | [], _ :: _, hl, _, _, _, _ => by simp at hl
  | _ :: _, [], hl, _, _, _, _ => by simp at hl
theorem newRow_ok {m0 : Mem} {t : Ty} {xs : List t.T} {cells : Array Value} {e : TypeId} {cap : Nat} {w1 : World} (hI : Inv g X m w1) {cs : List Value} (hr : RdL (Rd w1 (okB X g m) t) xs cs) (hc : ∀ (j : Nat) (v : Value), cs[j]? = some v → cells[j]? = some v) (hle : xs.length ≤ cap)
    (hsz : cap * t.size ≤ cells.size) (hx0 : Ext g m0 w g m w1)
    (hrun : (execOp a.eval o).run P w = .ok (.value (.slice (some ⟨w1.heap.size, 0, none⟩) xs.length cap)) (w1.alloc (.cells cells e))) (h : k (.sl g.n) ((g.n, .row t xs) :: m) (g.n + 1) = some r) : OpR P X o a w g m0 k kp r := by
  have hx := Ext.alloc hI (.cells cells e) (.row t xs) ⟨w1.heap.size, 0, xs.length, cap, false⟩ rfl
  refine OpR.value (g' := g.new ⟨w1.heap.size, 0, xs.length, cap, false⟩) hrun h (hI.alloc _ _ _ rfl ?_) ?_ (hx0.trans hx)
  · refine ⟨by rw [g.new_self], by rw [g.new_self]; exact hle, .inr ⟨by rw [g.new_self], cells, e, cs, ?_, RdL_mono (fun x cs => Rd_mono hx.holds t x cs) _ _ hr, ?_, ?_⟩⟩
    · rw [g.new_self]; exact heap_alloc_new w1 _
    · rw [g.new_self]; simpa using hc
    · rw [g.new_self]; simpa using hsz
  · refine RV_one rfl ⟨.inr rfl, ?_⟩
    rw [g.new_self]; rfl
theorem buildSlice_ok {t : TypeId} {i : TI} {n : Nat} {parts : Array (Nat × Operand)} (ho : o.op = .buildSlice t n parts) (hi : TIok P t i) (hI : Inv g X m w) (hf : FrOK g w (okB X g m) fr a.tmps) {xs : List i.ety.T}
    (hrow : rowOf (frzL (toksL (parts.toList.map fun p => ev fr p.2)) m) i.ety (parts.toList.map fun p => (p.1, ev fr p.2)) 0 = some xs)
    (hb : (Nat.beq i.kind 2 && (Nat.beq n xs.length && Nat.ble (n * i.ety.size) 16777216)) = true)
    (h : k (.sl g.n) ((g.n, .row i.ety xs) :: frzL (toksL (parts.toList.map fun p => ev fr p.2)) m) (g.n + 1) = some r) : OpR P X o a w g m k kp r := by
  simp only [Bool.and_eq_true] at hb
  obtain ⟨e, fi, ez, k1, k2, k3, k4, k5, k6, k7, k8⟩ := hi.slice (Nat.eq_of_beq_eq_true hb.1)
  have hn := Nat.eq_of_beq_eq_true hb.2.1
  have hlim := Nat.le_of_ble_eq_true hb.2.2
  generalize htk : toksL (parts.toList.map fun p => ev fr p.2) = tk at *
  obtain ⟨hI1, hx1⟩ := Inv.frzL tk hI
  have hf1 := FrOK.mono hx1.gx (hx1.holds (X := X)) hf
  obtain ⟨q1, q2, q3, q4⟩ := rowOf_ok (g := g) (w := w) (ok := okB X g (frzL tk m)) (fun τ => hI1.ok τ) (parts.toList.map fun p => (p.1, ev fr p.2)) (parts.toList.map fun p => (p.1, a.eval p.2)) (by simp)
    (fun j x v e1 e2 => by
      simp only [List.getElem?_map] at e1 e2
      cases hp : parts.toList[j]? with
      | none => rw [hp] at e1; cases e1
      | some p => rw [hp] at e1 e2; cases e1; cases e2; exact ⟨rfl, ev_ok hf1 p.2⟩) 0 xs hrow
  have hlen : (parts.toList.map fun p => (p.1, a.eval p.2)).length = n := by rw [hn, q1]; simp
  have hz : ez.cells.size = i.ety.size := by have := Rd_len w (fun _ => True) _ _ _ (k6 w (fun _ => True)); simpa using this
  obtain ⟨c', p1, p2⟩ := fill_row (sz := i.ety.size) (parts.toList.map fun p => (p.1, a.eval p.2)) 0 ((Array.range (n * i.ety.size)).map fun x => ez.cells[x % ez.cells.size]!) q2 q3 (by rw [Nat.zero_add, hlen]; simp)
  have hlst := catCells_len _ q3
  rw [hlen] at hlst
  simp only [Nat.zero_mul, List.take_zero, List.nil_append, Nat.zero_add, hlen] at p2
  rw [List.drop_of_length_le (by simp), List.append_nil] at p2
  refine newRow_ok (cells := c') (e := e) (cap := n) (cs := catCells (parts.toList.map fun p => (p.1, a.eval p.2))) hI1 q4 (fun j v hv => ?_) (by omega) ?_ hx1 ?_ h
  · rw [← p2] at hv; simpa using hv
  · have := congrArg List.length p2; simp only [Array.length_toList] at this; omega
  · have hsz : (sizeOf e).run P w = .ok i.ety.size w := by simp [sizeOf, typeInfo, k2, k3]
    have hzv : n * i.ety.size ≠ 0 → (zeroValue e).run P w = .ok ez w := fun _ => by simp [zeroValue, typeInfo, k2, k5]
    have hnl : ¬ (16777216 < n * i.ety.size) := by omega
    unfold execOp
    rw [← hn]
    by_cases h0 : n * i.ety.size = 0
    · have hn0 : n = 0 := by rcases Nat.mul_eq_zero.1 h0 with h | h <;> omega
      have hp0 : parts = #[] := by
        have : parts.toList.length = 0 := by simpa [hn0] using hlen
        apply Array.toList_inj.1; exact List.length_eq_zero_iff.1 this
      subst hp0 hn0
      have hc0 : c' = #[] := by
        apply Array.toList_inj.1; rw [p2]; rfl
      subst hc0
      simp [ho, Instr.buildSlice, run_underlying k1, hsz, Instr.fill, newRow]
      have hr0 : Array.range 0 = #[] := by apply Array.toList_inj.1; simp
      rw [hr0]; simp
    · have hmp : (parts.map fun p => (p.1, a.eval p.2)).toList = parts.toList.map fun p => (p.1, a.eval p.2) := by simp
      have e0 : (zeroValue e).run P w = .ok ez w := hzv h0
      have hfill : Instr.fill (fun i_1 => some (i_1 * i.ety.size, i.ety.size)) ((Array.range (n * i.ety.size)).map fun x => ez.cells[x % ez.cells.size]!) (List.map (fun p => (p.1, a.eval p.2)) parts.toList) = some c' := p1
      simp only [ho, Instr.buildSlice, Sem.run_bind, run_underlying k1, Result.andThen_ok, hsz, if_neg h0, e0, Sem.run_pure, hmp, gt_iff_lt]
      rw [if_neg (by simpa using hnl)]
      simp [e0, hfill, newRow]
end
end Go.Proofs.Ytkeolcgggondnaa.VX
