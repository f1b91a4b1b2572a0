/- The engine, part 7: addresses of fields and elements, numbers, lengths, closures. -/
import Derived.Test.YtkeolcgggondnaaVx6
set_option linter.unusedVariables false
set_option linter.unusedSimpArgs false
namespace Go.Proofs.Ytkeolcgggondnaa.VX
theorem poff_append (p q : Path) : Path.off (p ++ q) = Path.off p + Path.off q := by
  induction p with
  | nil => simp [Path.off]
  | cons s p ih => simp [Path.off, ih]; omega
theorem pok_append {n : Nat} {p : Path} {s : Sel} (h : pathOK n p) (hs : s.ok n) : pathOK n (p ++ [s]) := by
  intro x hx
  rcases List.mem_append.1 hx with hx | hx
  · exact h x hx
  · simp at hx; subst hx; exact hs
theorem Seg_part {w : World} {ok : Nat → Prop} {b o : Nat} {c0 c1 c2 : List Value} (h : Seg w ok ⟨b, o, none⟩ (c0 ++ c1 ++ c2)) : Seg w ok ⟨b, o + c0.length, none⟩ c1 := by
  obtain ⟨h1, h2, c, e, fr, h3, h4⟩ := h
  refine ⟨rfl, h2, c, e, fr, h3, fun j v hv => ?_⟩
  have := h4 (c0.length + j) v (by
    rw [List.append_assoc, List.getElem?_append_right (by omega), Nat.add_sub_cancel_left, List.getElem?_append_left ((List.getElem?_eq_some_iff.1 hv).1)]
    exact hv)
  rw [show o + c0.length + j = o + (c0.length + j) by omega]; exact this
section
variable {P : Program} {X : Nat → Prop} {R : Type} {o : Oper} {a : Act} {w : World} {g : G} {m : Mem} {k kp : AV → Mem → Nat → Option R} {r : R} {fr : Fr}
theorem ptr_mk {ok : Nat → Prop} {τ : Nat} {p : Path} (h1 : g.dom τ) (h2 : pathOK (g.loc τ).len p) : RV g w ok (.ptr τ p) (.pointer (some ⟨(g.loc τ).blk, (g.loc τ).base + Path.off p, none⟩)) :=
  RV_one rfl ⟨h1, h2, rfl⟩
theorem req_some {b : Bool} {x : Option R} (h : req b x = some r) : b = true ∧ x = some r := by
  cases b with
  | true => exact ⟨rfl, h⟩
  | false => cases h
theorem inb_iff {n : Int} {l : Nat} (h : inb n l = true) : 0 ≤ n ∧ n < l := by
  unfold inb at h; simpa using h
theorem fieldAddr_ok {t : TypeId} {i : TI} {x : Operand} {f : Nat} (ho : o.op = .fieldAddr t x f) (hi : TIok P t i) (hI : Inv g X m w) (hf : FrOK g w (okB X g m) fr a.tmps)
    (h : (bif Nat.blt f i.flds.length && Nat.beq i.kind 1 then match ev fr x with
      | .ptr τ p => k (.ptr τ (p ++ [getAt .inn i.flds f])) m g.n
      | .pv t x => match (AV.d t x).sel (getAt .inn i.flds f) with
        | some (.d t' x') => bif Nat.blt 0 t'.size then k (.pv t' x') m g.n else none
        | _ => none
      | _ => none else none) = some r) : OpR P X o a w g m k kp r := by
  cases hb : Nat.blt f i.flds.length && Nat.beq i.kind 1 with
  | false => rw [hb] at h; cases h
  | true =>
    rw [hb] at h
    simp only [cond_true] at h
    rw [Bool.and_eq_true] at hb
    obtain ⟨fs, h1, h2⟩ := hi.struct (Nat.eq_of_beq_eq_true hb.2)
    obtain ⟨fl, fi, d, h3, h4, h5, h6, h7, h8, h9, h10⟩ := h2 f (by simpa using hb.1)
    have hx := ev_ok hf x
    have run : ∀ b off, a.eval x = .pointer (some ⟨b, off, none⟩) → (execOp a.eval o).run P w = .ok (.value (.pointer (some ⟨b, off + (getAt Sel.inn i.flds f).off, none⟩))) w := by
      intro b off e
      have hz : (sizeOf fl.type).run P w = .ok fi.size w := by simp [sizeOf, typeInfo, h5]
      unfold execOp
      simp [ho, Instr.fieldAt, e, Instr.sureAddr, run_underlying h1, h3, fieldPlace, hz, h7, h4, add_eq]
    cases hq : ev fr x with
    | ptr τ p =>
      rw [hq] at h hx
      obtain ⟨k1, k2, k3⟩ := ptr_get hx
      refine OpR.value (run _ _ k3) h hI ?_ (Ext.refl _ _ _)
      have := ptr_mk (w := w) (ok := okB X g m) k1 (pok_append k2 (h10 _))
      rw [poff_append] at this
      simpa [Path.off, Nat.add_assoc] using this
    | pv t' y =>
      rw [hq] at h hx
      simp only at h
      obtain ⟨ad, cells, e1, e2, e3⟩ := hx.2 rfl
      obtain ⟨b, off, s⟩ := ad
      obtain rfl : s = none := e3.1
      have e1 := (List.cons.inj e1).1
      cases hs : (AV.d t' y).sel (getAt .inn i.flds f) with
      | none => rw [hs] at h; cases h
      | some v =>
        rw [hs] at h
        cases v with
        | d t2 x2 =>
          simp only at h
          cases hz : Nat.blt 0 t2.size with
          | false => rw [hz] at h; cases h
          | true =>
            rw [hz] at h
            obtain ⟨c0, c1, c2, q1, q2, q3⟩ := sel_ok (g := g) (w := w) (ok := okB X g m) hs (h10 0) (cs := cells) e2
            subst q1
            refine OpR.value (run _ _ e1) h hI (RV_one rfl ⟨_, c1, rfl, q3, ?_⟩) (Ext.refl _ _ _)
            rw [← q2]; exact Seg_part e3
        | _ => cases h
    | _ => rw [hq] at h; cases h
theorem part_run {t : TypeId} {fi : TypeInfo} {d : TypeDesc} {ag : Bool} (h1 : P.info? t = some fi) (h2 : P.underlying t = some d) (h3 : isAggD d = ag) {ok : Nat → Prop} {v : AV} {cs : Array Value} {c0 c1 c2 : List Value}
    (hc : cs.toList = c0 ++ c1 ++ c2) (hv : RC g w ok v c1) (hz : v.size = fi.size) (ha : v.isAgg = ag) : ∃ cv, (part t cs c0.length).run P w = .ok cv w ∧ RV g w ok v cv := by
  have hag : (isAgg t).run P w = .ok ag w := by
    unfold isAgg
    rw [Sem.run_bind, run_underlying h2 w]
    cases d <;> simp_all [isAggD]
  have hsz : (sizeOf t).run P w = .ok fi.size w := by simp [sizeOf, typeInfo, h1]
  have hl := RC_len v c1 hv
  cases ag with
  | true =>
    refine ⟨.agg (cs.extract c0.length (c0.length + fi.size)), by simp [part, hag, hsz], fun _ => ⟨c1, ?_, hv⟩, fun e => by rw [ha] at e; cases e⟩
    congr 1
    apply Array.toList_inj.1
    rw [Array.toList_extract, hc]
    simp only [List.extract_eq_take_drop, Nat.add_sub_cancel_left]
    rw [List.append_assoc, List.drop_left, List.take_append_of_le_length (by omega), List.take_of_length_le (by omega)]
  | false =>
    have h1 : v.size = 1 := by
      cases v with
      | d t x => cases t <;> first | rfl | cases ha
      | pr => cases ha
      | one => cases ha
      | _ => rfl
    match c1, hl.trans h1 with
    | [u], _ =>
      refine ⟨u, ?_, RV_one ha hv⟩
      have : cs[c0.length]? = some u := by
        have h2 : cs.toList[c0.length]? = some u := by rw [hc]; simp
        simpa using h2
      simp [part, hag, this]
theorem field_ok {t : TypeId} {i : TI} {x : Operand} {f : Nat} (ho : o.op = .field t x f) (hi : TIok P t i) (hI : Inv g X m w) (hf : FrOK g w (okB X g m) fr a.tmps)
    (h : (bif Nat.blt f i.flds.length && (Nat.beq i.kind 1 && (ev fr x).isAgg) then match (ev fr x).sel (getAt .inn i.flds f) with
      | some v => bif Nat.beq v.size (getAt 0 i.fsz f) && (v.isAgg == getAt false i.fag f) then k v m g.n else none
      | none => none else none) = some r) : OpR P X o a w g m k kp r := by
  cases hb : Nat.blt f i.flds.length && (Nat.beq i.kind 1 && (ev fr x).isAgg) with
  | false => rw [hb] at h; cases h
  | true =>
    rw [hb] at h
    simp only [cond_true] at h
    simp only [Bool.and_eq_true] at hb
    have hagg := hb.2.2
    obtain ⟨fs, h1, h2⟩ := hi.struct (Nat.eq_of_beq_eq_true hb.2.1)
    obtain ⟨fl, fi, d, h3, h4, h5, h6, h7, h8, h9, h10⟩ := h2 f (by simpa using hb.1)
    have hx := ev_ok hf x
    cases hs : (ev fr x).sel (getAt .inn i.flds f) with
    | none => rw [hs] at h; cases h
    | some v =>
      rw [hs] at h
      simp only at h
      cases hz : Nat.beq v.size (getAt 0 i.fsz f) && (v.isAgg == getAt false i.fag f) with
      | false => rw [hz] at h; cases h
      | true =>
        rw [hz] at h
        rw [Bool.and_eq_true] at hz
        obtain ⟨ds, e1, e2⟩ := hx.1 hagg
        obtain ⟨c0, c1, c2, q1, q2, q3⟩ := sel_ok hs (h10 0) e2
        obtain ⟨cv, p1, p2⟩ := part_run (P := P) (cs := ds.toArray) h5 h8 h9 (by simpa using q1) q3 ((Nat.eq_of_beq_eq_true hz.1).trans h6.symm) (beq_bool hz.2)
        refine OpR.value ?_ h hI p2 (Ext.refl _ _ _)
        unfold execOp
        rw [q2, ← h4] at p1
        simp [ho, Instr.field, e1, asAgg, run_underlying h1, h3, p1]
theorem ints_run {t : TypeId} {e : TypeId} {fi : TypeInfo} {cap len : Nat} {n : Int} {kk : IntKind} {b off : Nat} (h1 : P.underlying t = some (.slice e)) (h2 : P.info? e = some fi) (hn : 0 ≤ n ∧ n < len) :
    (Instr.indexAt t (.slice (some ⟨b, off, none⟩) len cap) (.int kk n)).run P w = .ok (.pointer (some ⟨b, off + n.toNat * fi.size, none⟩)) w := by
  simp [Instr.indexAt, asIntOf, run_underlying h1, hn.1, hn.2, sizeOf, typeInfo, h2, add_eq]
theorem elem_at {ok : Nat → Prop} {e : Ty} {l : List e.T} {cv : Value} (hv : RV g w ok (.d (.slice e) l) cv) {n : Int} (hn : 0 ≤ n ∧ n < l.length) :
    ∃ b off cap, cv = .slice (some ⟨b, off, none⟩) l.length cap ∧ RV g w ok (.pv e (getAt e.zero l (toN n))) (.pointer (some ⟨b, off + n.toNat * e.size, none⟩)) := by
  obtain ⟨ad, cap, e1, e2, e3⟩ := hv.2 rfl
  have e1 := (List.cons.inj e1).1
  rcases e3 with e3 | ⟨ad', cells, rfl, q1, q2⟩
  · have e3 : l = [] := e3
    rw [e3] at hn; simp at hn; omega
  · obtain ⟨b, off, s⟩ := ad'
    obtain rfl : s = none := q2.1
    refine ⟨b, off, cap, e1, RV_one rfl ⟨_, (cells.drop (n.toNat * e.size)).take e.size, rfl, ?_, ?_⟩⟩
    · exact RdL_at (fun x cs h => Rd_len w ok e x cs h) l cells q1 n.toNat e.zero (by omega)
    · have hcl := RdL_len (fun x cs h => Rd_len w ok e x cs h) l cells q1
      have hle : (n.toNat + 1) * e.size ≤ l.length * e.size := Nat.mul_le_mul_right _ (by omega)
      rw [Nat.add_mul, Nat.one_mul] at hle
      have : cells = cells.take (n.toNat * e.size) ++ (cells.drop (n.toNat * e.size)).take e.size ++ (cells.drop (n.toNat * e.size)).drop e.size := by
        rw [List.append_assoc, List.take_append_drop, List.take_append_drop]
      rw [this] at q2
      have hs := Seg_part q2
      rw [List.length_take, Nat.min_eq_left (by omega)] at hs
      exact hs
theorem sl_get {ok : Nat → Prop} {τ : Nat} {cv : Value} (h : RV g w ok (.sl τ) cv) : g.dom τ ∧ cv = (g.loc τ).sv := by
  obtain ⟨h1, h2⟩ := h.2 rfl
  exact ⟨h1, (List.cons.inj h2).1⟩
theorem casesIdx_some {n : Int} {f : Sel → Option R} : ∀ (l : List Sel) (j : Nat), casesIdx n l j f = some r → ∃ i, i < l.length ∧ n = ((j + i : Nat) : Int) ∧ f (getAt .inn l i) = some r
  | [], j, h => by cases h
  | s :: l, j, h => by
    simp only [casesIdx] at h
    cases hb : n == (j : Int) with
    | true =>
      rw [hb] at h
      exact ⟨0, by simp, by simpa using hb, h⟩
    | false =>
      rw [hb] at h
      obtain ⟨i, h1, h2, h3⟩ := casesIdx_some l (j + 1) h
      exact ⟨i + 1, by simp; omega, by rw [h2]; congr 1; omega, h3⟩
theorem bif_some {b : Bool} {x : Option R} (h : (bif b then x else none) = some r) : b = true ∧ x = some r := by
  cases b with
  | true => exact ⟨rfl, h⟩
  | false => cases h
theorem indexAddr_d {t : TypeId} {i : TI} {x ix : Operand} (ho : o.op = .indexAddr t x ix) (hi : TIok P t i) (hI : Inv g X m w) {e : Ty} {l : List e.T} {kk : IntKind} {n : Int}
    (hx : RV g w (okB X g m) (.d (.slice e) l) (a.eval x)) (hn : RV g w (okB X g m) (.d (.int kk) n) (a.eval ix))
    (h : (bif Nat.beq i.kind 2 && Nat.beq e.size i.ety.size then req (inb n (lenL e l)) (k (.pv e (getAt e.zero l (toN n))) m g.n) else none) = some r) : OpR P X o a w g m k kp r := by
  obtain ⟨hb, h⟩ := bif_some h
  rw [Bool.and_eq_true] at hb
  obtain ⟨h1, h2⟩ := req_some h
  have hin := inb_iff h1
  obtain ⟨el, fi, ez, k1, k2, k3, _⟩ := hi.slice (Nat.eq_of_beq_eq_true hb.1)
  obtain ⟨b, off, cap, q1, q2⟩ := elem_at hx hin
  have hsz : fi.size = e.size := k3.trans (Nat.eq_of_beq_eq_true hb.2).symm
  refine OpR.value ?_ h2 hI q2 (Ext.refl _ _ _)
  unfold execOp
  rw [ho]
  have hin' : 0 ≤ n ∧ n < (l.length : Nat) := hin
  simp only [q1, int_get hn, Sem.run_bind, ints_run (w := w) (cap := cap) (b := b) (off := off) (kk := kk) k1 k2 hin', Result.andThen_ok, Sem.run_pure, hsz]
theorem frz_rv {τ : Nat} {e : Ty} {l : List e.T} {cv : Value} (hI : Inv g X m w) (hm : mget τ m = .frz e l) (h : RV g w (okB X g m) (.sl τ) cv) : RV g w (okB X g m) (.d (.slice e) l) cv := by
  obtain ⟨hτ, hcv⟩ := sl_get h
  have hB := hI.ok τ
  rw [hm] at hB
  rw [hcv]; exact RV_one rfl hB
theorem indexAddr_row {t : TypeId} {i : TI} {x ix : Operand} (ho : o.op = .indexAddr t x ix) (hi : TIok P t i) (hI : Inv g X m w) {τ : Nat} {e : Ty} {l : List e.T} (hm : mget τ m = .row e l) {kk : IntKind} {n : Int}
    (hx : RV g w (okB X g m) (.sl τ) (a.eval x)) (hn : RV g w (okB X g m) (.d (.int kk) n) (a.eval ix))
    (h : (bif Nat.beq i.kind 2 && Nat.beq e.size i.ety.size then req (inb n (lenL e l)) (k (.ptr τ [.row (toN n) e.size]) m g.n) else none) = some r) : OpR P X o a w g m k kp r := by
  obtain ⟨hτ, hcv⟩ := sl_get hx
  obtain ⟨hb, h⟩ := bif_some h
  rw [Bool.and_eq_true] at hb
  obtain ⟨h1, h2⟩ := req_some h
  have hin : 0 ≤ n ∧ n < (l.length : Nat) := inb_iff h1
  obtain ⟨el, fi, ez, k1, k2, k3, _⟩ := hi.slice (Nat.eq_of_beq_eq_true hb.1)
  have hB := hI.ok τ
  rw [hm] at hB
  obtain ⟨b1, b2, b0⟩ := hB
  have hsz : fi.size = e.size := k3.trans (Nat.eq_of_beq_eq_true hb.2).symm
  rw [b1] at hin
  obtain ⟨b7, _⟩ := b0.resolve_left (fun h => by omega)
  have hcv : a.eval x = .slice (some ⟨(g.loc τ).blk, (g.loc τ).base, none⟩) (g.loc τ).len (g.loc τ).cap := by rw [hcv]; unfold Loc.sv; rw [b7]; rfl
  refine OpR.value (cv := .pointer (some ⟨(g.loc τ).blk, (g.loc τ).base + n.toNat * e.size, none⟩)) ?_ h2 hI ?_ (Ext.refl _ _ _)
  · unfold execOp
    rw [ho]
    simp only [hcv, int_get hn, Sem.run_bind, ints_run (w := w) (cap := (g.loc τ).cap) (b := (g.loc τ).blk) (off := (g.loc τ).base) (kk := kk) k1 k2 hin, Result.andThen_ok, Sem.run_pure, hsz]
  · have := ptr_mk (w := w) (ok := okB X g m) (p := [.row (toN n) e.size]) hτ (by
      intro s hs; simp at hs; subst hs; show toN n < _; unfold toN; omega)
    simpa [Path.off, Sel.off, toN] using this
theorem vw_get {ok : Nat → Prop} {τ lo n sz : Nat} {cv : Value} (h : RV g w ok (.vw τ lo n sz) cv) : g.dom τ ∧ (g.loc τ).vok lo n sz cv := by
  obtain ⟨h1, v, h2, h3⟩ := h.2 rfl
  cases (List.cons.inj h2).1
  exact ⟨h1, h3⟩
theorem frz_vw {τ lo n sz : Nat} {e : Ty} {l : List e.T} {cv : Value} (hI : Inv g X m w) (hm : mget τ m = .frz e l) (hsz : sz = e.size) (h : RV g w (okB X g m) (.vw τ lo n sz) cv) : RV g w (okB X g m) (.d (.slice e) (cut l lo n)) cv := by
  obtain ⟨hτ, hcv⟩ := vw_get h
  have hB := hI.ok τ
  rw [hm] at hB
  subst hsz
  exact RV_one rfl (frz_cut hB hcv)
theorem indexAddr_vw {t : TypeId} {i : TI} {x ix : Operand} (ho : o.op = .indexAddr t x ix) (hi : TIok P t i) (hI : Inv g X m w) {τ lo q sz : Nat} {e : Ty} {l : List e.T} (hm : mget τ m = .row e l) {kk : IntKind} {n : Int}
    (hx : RV g w (okB X g m) (.vw τ lo q sz) (a.eval x)) (hn : RV g w (okB X g m) (.d (.int kk) n) (a.eval ix))
    (h : (bif Nat.beq i.kind 2 && (Nat.beq e.size i.ety.size && Nat.beq sz e.size) then req (inb n q) (k (.ptr τ [.row (lo + toN n) e.size]) m g.n) else none) = some r) : OpR P X o a w g m k kp r := by
  obtain ⟨hτ, ⟨v1, _⟩, ad, hcv, v3⟩ := vw_get hx
  obtain ⟨hb, h⟩ := bif_some h
  rw [Bool.and_eq_true, Bool.and_eq_true] at hb
  obtain ⟨h1, h2⟩ := req_some h
  have hin : 0 ≤ n ∧ n < (q : Nat) := inb_iff h1
  obtain ⟨el, fi, ez, k1, k2, k3, _⟩ := hi.slice (Nat.eq_of_beq_eq_true hb.1)
  have hB := hI.ok τ
  rw [hm] at hB
  obtain ⟨b1, b2, b0⟩ := hB
  have hsz : fi.size = e.size := k3.trans (Nat.eq_of_beq_eq_true hb.2.1).symm
  have hsz2 := Nat.eq_of_beq_eq_true hb.2.2
  subst hsz2
  obtain ⟨b7, _⟩ := b0.resolve_left (fun h => by omega)
  rcases v3 with ⟨n1, _⟩ | ⟨_, off, rfl, n2, _⟩
  · rw [n1] at b7; cases b7
  · have hoff := n2 (by omega)
    refine OpR.value (cv := .pointer (some ⟨(g.loc τ).blk, off + n.toNat * e.size, none⟩)) ?_ h2 hI ?_ (Ext.refl _ _ _)
    · unfold execOp
      rw [ho]
      simp only [hcv, int_get hn, Sem.run_bind, ints_run (w := w) (cap := (g.loc τ).cap - lo) (b := (g.loc τ).blk) (off := off) (kk := kk) k1 k2 hin, Result.andThen_ok, Sem.run_pure, hsz]
    · have := ptr_mk (w := w) (ok := okB X g m) (p := [.row (lo + toN n) e.size]) hτ (by
        intro s hs; simp at hs; subst hs; show lo + toN n < _; unfold toN; omega)
      rw [hoff]
      simpa [Path.off, Sel.off, toN, Nat.add_mul, Nat.add_assoc] using this
theorem indexAddr_ptr {t : TypeId} {i : TI} {x ix : Operand} (ho : o.op = .indexAddr t x ix) (hi : TIok P t i) (hI : Inv g X m w) {τ : Nat} {p : Path} {kk : IntKind} {n : Int}
    (hx : RV g w (okB X g m) (.ptr τ p) (a.eval x)) (hn : RV g w (okB X g m) (.d (.int kk) n) (a.eval ix))
    (h : (bif Nat.beq i.kind 3 then req (inb n i.alen) (k (.ptr τ (p ++ [.idx (toN n) i.esz i.alen])) m g.n) else
          bif Nat.beq i.kind 4 && Nat.beq i.alen i.flds.length then casesIdx n i.flds 0 fun s => k (.ptr τ (p ++ [s])) m g.n else none) = some r) : OpR P X o a w g m k kp r := by
  obtain ⟨k1, k2, k3⟩ := ptr_get hx
  have run : ∀ e fi, P.underlying t = some (.array i.alen e) → P.info? e = some fi → fi.size = i.esz → 0 ≤ n → n < i.alen →
      (execOp a.eval o).run P w = .ok (.value (.pointer (some ⟨(g.loc τ).blk, (g.loc τ).base + Path.off p + n.toNat * i.esz, none⟩))) w := by
    intro e fi u1 u2 u3 u4 u5
    unfold execOp
    rw [ho]
    simp [k3, int_get hn, Instr.indexAt, asIntOf, run_underlying u1, u4, u5, sizeOf, typeInfo, u2, add_eq, Instr.sureAddr, u3]
  cases hb : Nat.beq i.kind 3 with
  | true =>
    rw [hb] at h
    simp only [cond_true] at h
    obtain ⟨h1, h2⟩ := req_some h
    have hin := inb_iff h1
    obtain ⟨e, fi, d, u1, u2, u3, _⟩ := hi.array (.inl (Nat.eq_of_beq_eq_true hb))
    refine OpR.value (run e fi u1 u2 u3 hin.1 hin.2) h2 hI ?_ (Ext.refl _ _ _)
    have := ptr_mk (w := w) (ok := okB X g m) k1 (pok_append (s := .idx (toN n) i.esz i.alen) k2 (by show toN n < i.alen; unfold toN; omega))
    rw [poff_append] at this
    simpa [Path.off, Sel.off, toN, Nat.add_assoc] using this
  | false =>
    rw [hb] at h
    simp only [cond_false] at h
    obtain ⟨hb4, h⟩ := bif_some h
    rw [Bool.and_eq_true] at hb4
    obtain ⟨j, j1, j2, j3⟩ := casesIdx_some _ _ h
    obtain ⟨e, fi, d, u1, u2, u3, u4⟩ := hi.array (.inr (Nat.eq_of_beq_eq_true hb4.1))
    obtain ⟨_, _, u5⟩ := u4 (Nat.eq_of_beq_eq_true hb4.1)
    obtain ⟨u6, u7⟩ := u5 j j1
    have hal := Nat.eq_of_beq_eq_true hb4.2
    have hn2 : n.toNat = j := by omega
    refine OpR.value (run e fi u1 u2 u3 (by omega) (by omega)) j3 hI ?_ (Ext.refl _ _ _)
    have := ptr_mk (w := w) (ok := okB X g m) k1 (pok_append (s := getAt .inn i.flds j) k2 (u7 _))
    rw [poff_append] at this
    rw [hn2]
    simpa [Path.off, u6, Nat.add_assoc] using this
theorem indexAddr_ok {t : TypeId} {i : TI} {x ix : Operand} (ho : o.op = .indexAddr t x ix) (hi : TIok P t i) (hI : Inv g X m w) (hf : FrOK g w (okB X g m) fr a.tmps)
    (h : (match ev fr x, ev fr ix with
      | .d (.slice e) l, .d (.int _) n => bif Nat.beq i.kind 2 && Nat.beq e.size i.ety.size then req (inb n (lenL e l)) (k (.pv e (getAt e.zero l (toN n))) m g.n) else none
      | .sl τ, .d (.int _) n => match mget τ m with
        | .row e l => bif Nat.beq i.kind 2 && Nat.beq e.size i.ety.size then req (inb n (lenL e l)) (k (.ptr τ [.row (toN n) e.size]) m g.n) else none
        | .frz e l => bif Nat.beq i.kind 2 && Nat.beq e.size i.ety.size then req (inb n (lenL e l)) (k (.pv e (getAt e.zero l (toN n))) m g.n) else none
        | _ => none
      | .vw τ lo q sz, .d (.int _) n => match mget τ m with
        | .row e l => bif Nat.beq i.kind 2 && (Nat.beq e.size i.ety.size && Nat.beq sz e.size) then req (inb n q) (k (.ptr τ [.row (lo + toN n) e.size]) m g.n) else none
        | .frz e l => bif Nat.beq i.kind 2 && (Nat.beq e.size i.ety.size && Nat.beq sz e.size) then req (inb n (lenL e (cut l lo q))) (k (.pv e (getAt e.zero (cut l lo q) (toN n))) m g.n) else none
        | _ => none
      | .ptr τ p, .d (.int _) n => bif Nat.beq i.kind 3 then req (inb n i.alen) (k (.ptr τ (p ++ [.idx (toN n) i.esz i.alen])) m g.n) else
          bif Nat.beq i.kind 4 && Nat.beq i.alen i.flds.length then casesIdx n i.flds 0 fun s => k (.ptr τ (p ++ [s])) m g.n else none
      | _, _ => none) = some r) : OpR P X o a w g m k kp r := by
  have hx := ev_ok hf x
  have hn := ev_ok hf ix
  split at h
  · rename_i hq1 hq2
    rw [hq1] at hx; rw [hq2] at hn
    exact indexAddr_d ho hi hI hx hn h
  · rename_i hq1 hq2
    rw [hq1] at hx; rw [hq2] at hn
    split at h
    · rename_i hm; exact indexAddr_row ho hi hI hm hx hn h
    · rename_i hm; exact indexAddr_d ho hi hI (frz_rv hI hm hx) hn h
    · cases h
  · rename_i hq1 hq2
    rw [hq1] at hx; rw [hq2] at hn
    split at h
    · rename_i hm; exact indexAddr_vw ho hi hI hm hx hn h
    · rename_i hm
      obtain ⟨hb, h'⟩ := bif_some h
      rw [Bool.and_eq_true, Bool.and_eq_true] at hb
      exact indexAddr_d ho hi hI (frz_vw hI hm (Nat.eq_of_beq_eq_true hb.2.2) hx) hn (by rw [hb.1, hb.2.1]; exact h')
    · cases h
  · rename_i hq1 hq2
    rw [hq1] at hx; rw [hq2] at hn
    exact indexAddr_ptr ho hi hI hx hn h
  · cases h
end
end Go.Proofs.Ytkeolcgggondnaa.VX
