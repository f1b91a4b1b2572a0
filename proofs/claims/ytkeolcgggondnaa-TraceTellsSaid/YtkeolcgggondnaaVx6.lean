/- The engine, part 6: more single operations. -/
import Derived.Test.YtkeolcgggondnaaVx5
set_option linter.unusedVariables false
set_option linter.unusedSimpArgs false
namespace Go.Proofs.Ytkeolcgggondnaa.VX
section
variable {P : Program} {X : Nat → Prop} {R : Type} {o : Oper} {a : Act} {w : World} {g : G} {m : Mem} {k kp : AV → Mem → Nat → Option R} {r : R} {fr : Fr}
theorem move_ok {x : Operand} (ho : o.op = .move x ∨ o.op = .assign x) (hI : Inv g X m w) (hf : FrOK g w (okB X g m) fr a.tmps) (h : k (ev fr x) m g.n = some r) : OpR P X o a w g m k kp r := by
  refine OpR.value (cv := a.eval x) ?_ h hI (ev_ok hf x) (Ext.refl _ _ _)
  unfold execOp
  rcases ho with ho | ho <;> rw [ho] <;> rfl
theorem bool_get {ok : Nat → Prop} {b : Bool} {cv : Value} (h : RV g w ok (.d .bool b) cv) : cv = .bool b := by
  have := h.2 rfl; exact (List.cons.inj this).1
theorem int_get {ok : Nat → Prop} {kk : IntKind} {n : Int} {cv : Value} (h : RV g w ok (.d (.int kk) n) cv) : cv = .int kk n := by
  have := h.2 rfl; exact (List.cons.inj this).1
theorem bool_mk {ok : Nat → Prop} (b : Bool) : RV g w ok (.d .bool b) (.bool b) := ⟨fun h => (by cases h), fun _ => rfl⟩
theorem int_mk {ok : Nat → Prop} (kk : IntKind) (n : Int) : RV g w ok (.d (.int kk) n) (.int kk n) := ⟨fun h => (by cases h), fun _ => rfl⟩
theorem pick_ok {c x y : Operand} (ho : o.op = .pick c x y) (hI : Inv g X m w) (hf : FrOK g w (okB X g m) fr a.tmps) {t : Bool} (hc : ev fr c = .d .bool t)
    (h : (cond t (k (ev fr x) m g.n) (k (ev fr y) m g.n)) = some r) : OpR P X o a w g m k kp r := by
  have h1 := ev_ok hf c
  rw [hc] at h1
  have h2 := bool_get h1
  cases t with
  | true =>
    refine OpR.value (cv := a.eval x) ?_ h hI (ev_ok hf x) (Ext.refl _ _ _)
    unfold execOp; simp [ho, h2, asBool]
  | false =>
    refine OpR.value (cv := a.eval y) ?_ h hI (ev_ok hf y) (Ext.refl _ _ _)
    unfold execOp; simp [ho, h2, asBool]
/-- A new block. -/
theorem new_ok {v : AV} {cs : Array Value} {e : TypeId} (hI : Inv g X m w) (hs : v.sto = true) (hv : RC g w (okB X g m) v cs.toList)
    (hr : (execOp a.eval o).run P w = .ok (.value (.pointer (some ⟨w.heap.size, 0, none⟩))) (w.alloc (.cells cs e))) (h : k (.ptr g.n []) ((g.n, .var v) :: m) (g.n + 1) = some r) : OpR P X o a w g m k kp r := by
  have hx := Ext.alloc hI (.cells cs e) (.var v) ⟨w.heap.size, 0, 0, 0, false⟩ rfl
  refine OpR.value (g' := g.new ⟨w.heap.size, 0, 0, 0, false⟩) hr h (hI.alloc _ _ _ rfl ?_) ?_ hx
  · refine ⟨by rw [g.new_self], hs, by rw [g.new_self], cs, e, ?_, RC_mono hx.gx hx.holds _ _ hv⟩
    rw [g.new_self]; exact heap_alloc_new w _
  · refine RV_one rfl ⟨.inr rfl, fun s hs => (by cases hs), ?_⟩
    rw [g.new_self]; rfl
theorem alloc_ok {t : TypeId} {i : TI} (ho : o.op = .alloc t) (hi : TIok P t i) (hI : Inv g X m w) (h : k (.ptr g.n []) ((g.n, .var i.zero) :: m) (g.n + 1) = some r) : OpR P X o a w g m k kp r := by
  obtain ⟨f, z, h1, h2, h3, h4, h5, h6⟩ := hi.info
  refine new_ok (cs := z.cells) (e := t) hI h4 (RV_cells h4 (h6 _ _ _)) ?_ h
  unfold execOp
  simp [ho, Instr.alloc, zeroValue, typeInfo, h1, h3, newVar, newRow]
theorem box_ok {t : TypeId} {x : Operand} (ho : o.op = .box t x) (hI : Inv g X m w) (hf : FrOK g w (okB X g m) fr a.tmps) (hs : (ev fr x).sto = true)
    (h : k (.ptr g.n []) ((g.n, .var (ev fr x)) :: m) (g.n + 1) = some r) : OpR P X o a w g m k kp r := by
  refine new_ok (cs := (a.eval x).cells) (e := t) hI hs (RV_cells hs (ev_ok hf x)) ?_ h
  unfold execOp
  simp [ho, Instr.box, newVar, newRow]
theorem foldl_splice : ∀ (vs : List Value) (cs : Array Value) (off j : Nat), off + j + vs.length ≤ cs.size →
    ((vs.zipIdx j).foldl (fun cs (p : Value × Nat) => cs.setIfInBounds (off + p.2) p.1) cs).toList = cs.toList.take (off + j) ++ vs ++ cs.toList.drop (off + j + vs.length)
  | [], cs, off, j, _ => by simp
  | v :: vs, cs, off, j, h => by
    simp only [List.zipIdx_cons, List.foldl_cons]
    have h2 := foldl_splice vs (cs.setIfInBounds (off + j) v) off (j + 1) (by simp at h ⊢; omega)
    rw [h2]
    simp only [Array.toList_setIfInBounds]
    have := list_seg_step cs.toList (off + j) v vs (by simp at h ⊢; omega)
    simp only [List.length_cons] at *
    rw [show off + (j + 1) = off + j + 1 by omega, show off + j + (vs.length + 1) = off + j + 1 + vs.length by omega]
    simpa [Nat.add_assoc, Nat.add_comm 1] using this
theorem fields_ok {ok : Nat → Prop} (hf : ∀ τ, BOK g w ok τ (mget τ m)) {flds : List Sel} {fsz : List Nat} {place : Nat → Option (Nat × Nat)}
    (hp : ∀ k, k < flds.length → place k = some ((getAt Sel.inn flds k).off, getAt 0 fsz k) ∧ ∀ n, (getAt Sel.inn flds k).ok n) :
    ∀ (l : List (AV × Nat)) (vs : List (Nat × Value)), l.length = vs.length → (∀ (j : Nat) (x : AV × Nat) (v : Nat × Value), l[j]? = some x → vs[j]? = some v → x.2 = v.1 ∧ RV g w ok x.1 v.2) → ∀ (v0 v : AV) (cells : Array Value), fields m flds fsz v0 l = some v → v0.sto = true → RC g w ok v0 cells.toList →
    ∃ cells', Instr.fill place cells vs = some cells' ∧ RC g w ok v cells'.toList ∧ v.sto = true
  | [], [], _, _, v0, v, cells, h, hs, hv => by
    simp only [fields] at h; cases h
    exact ⟨cells, rfl, hv, hs⟩
  | (x, i) :: l, (j, u) :: vs, hl, he, v0, v, cells, h, hs, hv => by
    obtain ⟨e1, e2⟩ := he 0 _ _ rfl rfl
    simp only at e1 e2
    subst e1
    simp only [fields] at h
    cases hb : Nat.blt i flds.length && (Nat.beq x.size (getAt 0 fsz i) && x.sto) with
    | false => rw [hb] at h; cases h
    | true =>
      rw [hb] at h
      simp only [cond_true] at h
      simp only [Bool.and_eq_true] at hb
      obtain ⟨hb1, hb2, hb3⟩ := hb
      have hlt : i < flds.length := by simpa using hb1
      have hsz := Nat.eq_of_beq_eq_true hb2
      obtain ⟨hp1, hp2⟩ := hp i hlt
      cases hset : v0.set m x [getAt .inn flds i] with
      | none => rw [hset] at h; cases h
      | some v' =>
        rw [hset] at h
        simp only at h
        obtain ⟨c0, c1, c2, k1, k2, k3, k4⟩ := set_ok hf (n := 0) [getAt .inn flds i] v0 x v' hset (fun s hs' => by simp at hs'; subst hs'; exact hp2 0) _ _ hv (RV_cells hb3 e2)
        have hcs := cells_size hb3 e2
        have hcl : cells.size = c0.length + c1.length + c2.length := by
          have := congrArg List.length k1
          simp at this; omega
        have hk3 : c1.length = u.cells.size := by rw [k3]; simp
        have hoff : c0.length = (getAt Sel.inn flds i).off := by rw [k2]; simp [Path.off]
        have hfold := foldl_splice u.cells.toList cells (getAt Sel.inn flds i).off 0 (by simp only [Array.length_toList]; omega)
        simp only [Nat.add_zero] at hfold
        have hnew : cells.toList.take (getAt Sel.inn flds i).off ++ u.cells.toList ++ cells.toList.drop ((getAt Sel.inn flds i).off + u.cells.toList.length) = c0 ++ u.cells.toList ++ c2 := by
          rw [k1, ← hoff, ← k3, List.append_assoc c0, List.take_left, List.drop_append, List.drop_append]
          simp
        rw [hnew] at hfold
        obtain ⟨cells', q1, q2, q3⟩ := fields_ok hf hp l vs (by simpa using hl) (fun jj y v h1 h2 => he (jj + 1) y v (by simpa using h1) (by simpa using h2)) v' v ((u.cells.toList.zipIdx 0).foldl (fun cs (p : Value × Nat) => cs.setIfInBounds ((getAt Sel.inn flds i).off + p.2) p.1) cells) h (set_sto _ v0 x v' hset hs hb3) (by rw [hfold]; exact k4)
        refine ⟨cells', ?_, q2, q3⟩
        unfold Instr.fill
        simp only [hp1]
        rw [if_neg (by simp only [not_or, Decidable.not_not, ne_eq, Bool.or_eq_true, decide_eq_true_eq, Bool.decide_or]; constructor <;> first | omega | (rw [hcs]; exact hsz))]
        rw [← q1]
        congr 1
        rw [← Array.foldl_toList, Array.toList_zipIdx]
  | [], _ :: _, hl, _, _, _, _, _, _, _ => by simp at hl
  | _ :: _, [], hl, _, _, _, _, _, _, _ => by simp at hl
theorem build_ok {t : TypeId} {i : TI} {parts : Array (Nat × Operand)} (ho : o.op = .build t parts) (hi : TIok P t i) (hI : Inv g X m w) (hf : FrOK g w (okB X g m) fr a.tmps)
    (h0 : 0 < i.flds.length) (hag : i.agg = true) {v : AV} (hfl : fields m i.flds i.fsz i.zero (parts.toList.map fun p => (ev fr p.2, p.1)) = some v) (hva : v.isAgg = true) (h : k v m g.n = some r) : OpR P X o a w g m k kp r := by
  obtain ⟨f, z, place, h1, h2, h3, h4⟩ := hi.build h0
  obtain ⟨f', z', h1', h2', h3', h4', h5', h6'⟩ := hi.info
  obtain rfl : f = f' := by rw [h1] at h1'; exact Option.some.inj h1'
  obtain rfl : z = z' := by rw [h2] at h3'; exact Option.some.inj h3'
  obtain ⟨cells', q1, q2, q3⟩ := fields_ok (g := g) (w := w) (ok := okB X g m) (fun τ => hI.ok τ) h4 (parts.toList.map fun p => (ev fr p.2, p.1)) (parts.toList.map fun p => (p.1, a.eval p.2)) (by simp)
    (fun j x v e1 e2 => by
      simp only [List.getElem?_map] at e1 e2
      cases hp : parts.toList[j]? with
      | none => rw [hp] at e1; cases e1
      | some p => rw [hp] at e1 e2; cases e1; cases e2; exact ⟨rfl, ev_ok hf p.2⟩)
    i.zero v z.cells hfl h4' (RV_cells h4' (h6' _ _ _))
  refine OpR.value (cv := .agg cells') ?_ h hI ⟨fun _ => ⟨cells'.toList, rfl, q2⟩, fun e => by rw [hva] at e; cases e⟩ (Ext.refl _ _ _)
  have hb : P.built t (parts.map fun p => (p.1, a.eval p.2)).toList = some cells' := by rw [h3, Array.toList_map]; exact q1
  unfold execOp
  simp [ho, run_build w t _ cells' hb]
end
end Go.Proofs.Ytkeolcgggondnaa.VX
