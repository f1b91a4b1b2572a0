/- The engine, part S: slices: append, parts, new ones, copies. -/
import Derived.Test.YtkeolcgggondnaaVx10
import Derived.Laws.AppendOwn
import Derived.Laws.MakeOwn
set_option linter.unusedVariables false
set_option linter.unusedSimpArgs false
namespace Go.Proofs.Ytkeolcgggondnaa.VX
section
variable {P : Program} {C : Ctx} {X : Nat → Prop} {R : Type} {o : Oper} {a : Act} {w : World} {g : G} {m : Mem} {k kp : AV → Mem → Nat → Option R} {r : R} {fr : Fr}
/-- What an argument's elements are made of. -/
structure ElOK (P : Program) (w : World) (size : Nat) (cv : Value) (n : Nat) (cells : List Value) : Prop where
  clen : cells.length = n * size
  one : ∀ v ∈ cells, v.oneCell' = true
  len : ∀ w', (Builtin.lenOf cv).run P w' = .ok n w'
  first : ∀ w' q, w'.heap = w.heap → q ≤ n → (Builtin.firstCells size q cv).run P w' = .ok (cells.take (q * size)).toArray w'
theorem cell_heap {w w' : World} (h : w'.heap = w.heap) (ad : Addr) : w'.cell? ad = w.cell? ad := by simp [World.cell?, h]
theorem ElOK.nil {size cap : Nat} {ad : Option Addr} : ElOK P w size (.slice ad 0 cap) 0 [] := by
  refine ⟨by simp, by simp, fun w' => rfl, fun w' q _ hq => ?_⟩
  obtain rfl : q = 0 := by omega
  cases ad with
  | none => simp [Builtin.firstCells]
  | some b => simp [Builtin.firstCells, loadCells, loadCellsFrom]
theorem ElOK.slice {size n cap : Nat} {ad : Addr} {cells : List Value} (hl : cells.length = n * size) (h1 : ∀ v ∈ cells, v.oneCell' = true) (h : ∀ j v, cells[j]? = some v → w.cell? (ad.add j) = some v) : ElOK P w size (.slice (some ad) n cap) n cells := by
  refine ⟨hl, h1, fun w' => rfl, fun w' q hw hq => ?_⟩
  refine run_firstCells_some w' size q ad n cap _ ?_ (fun j v hv => ?_)
  · rw [List.length_take, hl]
    have := Nat.mul_le_mul_right size hq
    omega
  · rw [cell_heap hw]
    rw [List.getElem?_take] at hv
    split at hv
    · exact h j v hv
    · cases hv
theorem add_none (b o j : Nat) : (⟨b, o, none⟩ : Addr).add j = ⟨b, o + j, none⟩ := add_eq b o j
theorem Rd_slice_el {ok : Nat → Prop} {t : Ty} {ys : List t.T} {cv : Value} (h : Rd w ok (.slice t) ys [cv]) : ∃ cells, RdL (Rd w ok t) ys cells ∧ ElOK P w t.size cv ys.length cells := by
  obtain ⟨ad, cap, e, hle, h3⟩ := h
  obtain rfl := (List.cons.inj e).1
  rcases h3 with rfl | ⟨b, cells, rfl, h4, h5⟩
  · exact ⟨[], rfl, ElOK.nil⟩
  · refine ⟨cells, h4, ElOK.slice (RdL_len (fun x cs h => Rd_len w ok t x cs h) ys cells h4) (RdL_one (fun x cs h => Rd_one w ok t x cs h) ys cells h4) ?_⟩
    obtain ⟨b', off, rfl, hc⟩ := seg_cell h5
    intro j v hv
    rw [add_none]; exact hc j v hv
/-- A part of a row of one's own. -/
structure RowAt (g : G) (w : World) (ok : Nat → Prop) (τ : Nat) (t : Ty) (xs : List t.T) (lo n : Nat) (cv : Value) : Prop where
  fit : lo + n ≤ xs.length
  val : ∃ ad, cv = .slice ad n ((g.loc τ).cap - lo) ∧ (((g.loc τ).nil = true ∧ ad = none ∧ (g.loc τ).cap = 0 ∧ xs = []) ∨
    ((g.loc τ).nil = false ∧ ∃ off c e cells, ad = some ⟨(g.loc τ).blk, off, none⟩ ∧ (lo < (g.loc τ).cap → off = (g.loc τ).base + lo * t.size) ∧ off + ((g.loc τ).cap - lo) * t.size ≤ c.size ∧
      w.heap[(g.loc τ).blk]? = some (.cells c e (0, 0)) ∧ RdL (Rd w ok t) xs cells ∧ (∀ (j : Nat) (v : Value), cells[j]? = some v → c[(g.loc τ).base + j]? = some v) ∧ (g.loc τ).base + (g.loc τ).cap * t.size ≤ c.size))
  len : xs.length = (g.loc τ).len
  cap : (g.loc τ).len ≤ (g.loc τ).cap
theorem rowAt_sl (hI : Inv g X m w) {τ : Nat} {t : Ty} {xs : List t.T} (hm : mget τ m = .row t xs) {cv : Value} (h : RV g w (okB X g m) (.sl τ) cv) : RowAt g w (okB X g m) τ t xs 0 xs.length cv := by
  obtain ⟨h1, h2⟩ := sl_get h
  have hB := hI.ok τ
  rw [hm] at hB
  obtain ⟨b1, b2, b0⟩ := hB
  refine ⟨by omega, ?_, b1, b2⟩
  rcases b0 with ⟨n1, n2⟩ | ⟨n1, c, e, cells, b3, b4, b5, b6⟩
  · exact ⟨none, by rw [h2]; unfold Loc.sv; rw [n1, b1]; rfl, .inl ⟨n1, rfl, n2, List.eq_nil_of_length_eq_zero (by omega)⟩⟩
  · exact ⟨some ⟨(g.loc τ).blk, (g.loc τ).base, none⟩, by rw [h2]; unfold Loc.sv; rw [n1, b1]; rfl, .inr ⟨n1, (g.loc τ).base, c, e, cells, rfl, fun _ => by omega, by simpa using b6, b3, b4, b5, b6⟩⟩
theorem rowAt_vw (hI : Inv g X m w) {τ lo n : Nat} {t : Ty} {xs : List t.T} (hm : mget τ m = .row t xs) {cv : Value} (h : RV g w (okB X g m) (.vw τ lo n t.size) cv) : RowAt g w (okB X g m) τ t xs lo n cv := by
  obtain ⟨h1, ⟨h2, _⟩, ad, h3, h4⟩ := vw_get h
  have hB := hI.ok τ
  rw [hm] at hB
  obtain ⟨b1, b2, b0⟩ := hB
  refine ⟨by omega, ?_, b1, b2⟩
  rcases b0 with ⟨n1, n2⟩ | ⟨n1, c, e, cells, b3, b4, b5, b6⟩
  · rcases h4 with ⟨_, rfl⟩ | ⟨q1, _⟩
    · exact ⟨none, h3, .inl ⟨n1, rfl, n2, List.eq_nil_of_length_eq_zero (by omega)⟩⟩
    · rw [n1] at q1; cases q1
  · rcases h4 with ⟨q1, _⟩ | ⟨_, off, rfl, q2, q3⟩
    · rw [n1] at q1; cases q1
    · refine ⟨_, h3, .inr ⟨n1, off, c, e, cells, rfl, q2, ?_, b3, b4, b5, b6⟩⟩
      by_cases hlo : lo < (g.loc τ).cap
      · rw [q2 hlo, Nat.sub_mul]
        have := Nat.mul_le_mul_right t.size (Nat.le_of_lt hlo)
        omega
      · rw [show (g.loc τ).cap - lo = 0 by omega]; omega
theorem RowAt.el {ok : Nat → Prop} {τ lo n : Nat} {t : Ty} {xs : List t.T} {cv : Value} (h : RowAt g w ok τ t xs lo n cv) : ∃ cells, RdL (Rd w ok t) (cut xs lo n) cells ∧ ElOK P w t.size cv n cells := by
  obtain ⟨ad, rfl, h3⟩ := h.val
  have hf := h.fit
  have hR := fun x cs h => Rd_len w ok t x cs h
  by_cases hn : n = 0
  · subst hn
    have : cut xs lo 0 = [] := by unfold cut; simp
    rw [this]
    exact ⟨[], rfl, ElOK.nil⟩
  · rcases h3 with ⟨_, _, _, e⟩ | ⟨n1, off, c, e, cells, rfl, q1, q2, q3, q4, q5, q6⟩
    · subst e; simp at hf; omega
    · have hlen := RdL_len hR xs cells q4
      have hsp := (RdL_split hR _ _ (RdL_split hR xs cells q4 lo).2 n).1
      have hc := RdL_len hR _ _ hsp
      refine ⟨_, hsp, ElOK.slice ?_ (RdL_one (fun x cs h => Rd_one w ok t x cs h) _ _ hsp) (fun j v hv => ?_)⟩
      · have : (cut xs lo n).length = n := cut_len hf
        unfold cut at this
        rw [hc, this]
      · rw [add_none]
        rw [List.getElem?_take] at hv
        split at hv
        · rw [List.getElem?_drop] at hv
          have h5 := q5 _ _ hv
          have hlo : lo < (g.loc τ).cap := by have := h.len; have := h.cap; omega
          simp only [World.cell?, q3, q1 hlo]
          rw [Nat.add_assoc]; exact h5
        · cases hv
theorem bytes_el {ok : Nat → Prop} {s : List UInt8} {cv : Value} (h : RV g w ok (.d .str s) cv) : ∃ cells, RdL (Rd w ok (.int .u8)) (bytesI s) cells ∧ ElOK P w 1 cv (bytesI s).length cells := by
  obtain ⟨ba, rfl, hs⟩ := str_get h
  have hl : (bytesI s).length = ba.size := by unfold bytesI; rw [List.length_map, size_data, hs]
  have hrd : ∀ (l : List UInt8), RdL (Rd w ok (.int .u8)) (bytesI l) (l.map fun b => Value.int .u8 ((b.toNat : Nat) : Int)) := by
    intro l
    induction l with
    | nil => rfl
    | cons x l ih => exact ⟨[_], _, rfl, rfl, ih⟩
  refine ⟨s.map fun b => Value.int .u8 ((b.toNat : Nat) : Int), hrd s, by simp [bytesI], ?_, fun w' => ?_, fun w' q _ hq => ?_⟩
  · intro v hv
    obtain ⟨b, _, rfl⟩ := List.mem_map.1 hv
    simp [Value.oneCell']
  · rw [hl]; rfl
  · simp only [Builtin.firstCells, Nat.mul_one, Sem.run_pure]
    congr 1
    apply Array.toList_inj.1
    simp only [Array.toList_map, List.toList_toArray]
    rw [← hs, ← List.map_take]
    congr 1
    simp [ByteArray.data_extract]
theorem elemsOf_ok (hI : Inv g X m w) {t : Ty} {v : AV} {ys : List t.T} (h : elemsOf m t v = some ys) {cv : Value} (hv : RV g w (okB X g m) v cv) : ∃ cells, RdL (Rd w (okB X g m) t) ys cells ∧ ElOK P w t.size cv ys.length cells := by
  cases v with
  | d t' zs =>
    cases t' with
    | slice t' =>
      obtain ⟨e, rfl⟩ := conv_some (show Ty.conv (.slice t') (.slice t) zs = some ys from h)
      cases e
      exact Rd_slice_el (hv.2 rfl)
    | str =>
      obtain ⟨e, rfl⟩ := conv_some (show Ty.conv (.slice (.int .u8)) (.slice t) (bytesI zs) = some ys from h)
      cases e
      exact bytes_el hv
    | _ => cases h
  | nl =>
    cases h
    obtain rfl := (List.cons.inj (hv.2 rfl)).1
    exact ⟨[], rfl, ElOK.nil⟩
  | sl τ =>
    have h' : (match mget τ m with
      | .row t' ys => Ty.conv (.slice t') (.slice t) ys
      | .frz t' ys => Ty.conv (.slice t') (.slice t) ys
      | _ => none) = some ys := h
    cases hm : mget τ m with
    | row t' zs =>
      rw [hm] at h'
      obtain ⟨e, rfl⟩ := conv_some h'
      cases e
      obtain ⟨cells, h1, h2⟩ := (rowAt_sl hI hm hv).el (P := P)
      have : cut zs 0 (List.length zs) = zs := by unfold cut; simp
      rw [this] at h1
      exact ⟨cells, h1, h2⟩
    | frz t' zs =>
      rw [hm] at h'
      obtain ⟨e, rfl⟩ := conv_some h'
      cases e
      exact Rd_slice_el ((frz_rv hI hm hv).2 rfl)
    | _ => rw [hm] at h'; cases h'
  | vw τ lo n sz =>
    have h' : (match mget τ m with
      | .row t' ys => bif Nat.beq sz t'.size then Ty.conv (.slice t') (.slice t) (cut ys lo n) else none
      | .frz t' ys => bif Nat.beq sz t'.size then Ty.conv (.slice t') (.slice t) (cut ys lo n) else none
      | _ => none) = some ys := h
    cases hm : mget τ m with
    | row t' zs =>
      rw [hm] at h'
      obtain ⟨hb, h2⟩ := bif_some h'
      have hsz := Nat.eq_of_beq_eq_true hb
      subst hsz
      obtain ⟨e, rfl⟩ := conv_some h2
      cases e
      have hr := rowAt_vw hI hm hv
      obtain ⟨cells, h1, h2⟩ := hr.el (P := P)
      have hl : (cut zs lo n).length = n := cut_len hr.fit
      exact ⟨cells, h1, by show ElOK P w _ cv (cut zs lo n).length cells; rw [hl]; exact h2⟩
    | frz t' zs =>
      rw [hm] at h'
      obtain ⟨hb, h2⟩ := bif_some h'
      obtain ⟨e, rfl⟩ := conv_some h2
      cases e
      exact Rd_slice_el ((frz_vw hI hm (Nat.eq_of_beq_eq_true hb) hv).2 rfl)
    | _ => rw [hm] at h'; cases h'
  | _ => cases h
theorem run_app_grow (t u ty e : TypeId) (i : TypeInfo) (z : Value) (ht : P.underlying t = some (.slice e)) (hu : ∃ d, P.underlying u = some d ∧ ∀ k, d ≠ .int k) (hi : P.info? e = some i) (hz : i.zero = some z)
    (b : Option Addr) (sLen sCap n : Nat) (y : Value) (olds news : List Value) (ho : ElOK P w i.size (.slice b sLen sCap) sLen olds) (hn : ElOK P w i.size y n news)
    (hg : sCap < sLen + n) (h63 : ((sLen + n : Nat) : Int) ≤ 9223372036854775807) (hfit : Builtin.nextslicecap (sLen + n) sCap * i.bytes ≤ 281474976710656) :
    (Builtin.append_ #[t, u] ty #[.slice b sLen sCap, y]).run P w =
      .ok (.slice (some ⟨w.heap.size, 0, none⟩) (sLen + n) (grownCap w (sLen + n) sCap e))
        (w.drew.alloc (.cells (olds.toArray ++ news.toArray ++ Builtin.zeroCells z.cells (grownCap w (sLen + n) sCap e - (sLen + n))) e)) := by
  have hn' : ¬ (sLen + n ≤ sCap) := by omega
  have h63' : ¬ (9223372036854775807 < ((sLen : Int) + (n : Int))) := by omega
  have h48' : ¬ (281474976710656 < Builtin.nextslicecap (sLen + n) sCap * i.bytes) := by omega
  have hf := hn.first w.drew n rfl (Nat.le_refl _)
  have hfo := ho.first w.drew sLen rfl (Nat.le_refl _)
  rw [List.take_of_length_le (by rw [hn.clen]; exact Nat.le_refl _)] at hf
  rw [List.take_of_length_le (by rw [ho.clen]; exact Nat.le_refl _)] at hfo
  obtain ⟨d, hd1, hd2⟩ := hu
  have hl := hn.len w
  have hdm : (match d with | .int _ => true | _ => false) = false := by cases d <;> first | rfl | exact absurd rfl (hd2 _)
  simp [Builtin.append_, run_underlying ht, run_underlying hd1, sizeOf, typeInfo, zeroValue, hi, hz, hl, hn', h63', h48', Question.forced, hf, hfo, newRow, grownCap, hdm]
  congr 2
  apply Array.ext'
  simp [List.append_assoc]
theorem run_app_room (t u ty e : TypeId) (i : TypeInfo) (ht : P.underlying t = some (.slice e)) (hu : ∃ d, P.underlying u = some d ∧ ∀ k, d ≠ .int k) (hi : P.info? e = some i)
    (blk off sLen sCap n : Nat) (y : Value) (cur : Array Value) (e' : TypeId) (hg : w.heap[blk]? = some (.cells cur e' (0, 0))) (news : List Value) (hn : ElOK P w i.size y n news) (hroom : sLen + n ≤ sCap) (hfit : off + (sLen + n) * i.size ≤ cur.size) :
    (Builtin.append_ #[t, u] ty #[.slice (some ⟨blk, off, none⟩) sLen sCap, y]).run P w =
      .ok (.slice (some ⟨blk, off, none⟩) (sLen + n) sCap) (w.setRow blk (cur.toList.take (off + sLen * i.size) ++ news ++ cur.toList.drop (off + sLen * i.size + news.length)).toArray) := by
  have hst := run_storeCells_at P blk (off + sLen * i.size) e' news 0 cur w hg (by rw [hn.clen]; rw [Nat.add_mul] at hfit; omega) hn.one
  simp only [Nat.add_zero] at hst
  have hf := hn.first w n rfl (Nat.le_refl _)
  rw [List.take_of_length_le (by rw [hn.clen]; exact Nat.le_refl _)] at hf
  obtain ⟨d, hd1, hd2⟩ := hu
  have hl := hn.len w
  have hdm : (match d with | .int _ => true | _ => false) = false := by cases d <;> first | rfl | exact absurd rfl (hd2 _)
  simp [Builtin.append_, run_underlying ht, run_underlying hd1, sizeOf, typeInfo, hi, hl, hroom, hf, add_none, hst, hdm]
theorem run_app_none (t u ty e : TypeId) (i : TypeInfo) (ht : P.underlying t = some (.slice e)) (hu : ∃ d, P.underlying u = some d ∧ ∀ k, d ≠ .int k) (hi : P.info? e = some i)
    (sCap : Nat) (y : Value) (news : List Value) (hn : ElOK P w i.size y 0 news) :
    (Builtin.append_ #[t, u] ty #[.slice none 0 sCap, y]).run P w = .ok (.slice none 0 sCap) w := by
  have hf := hn.first w 0 rfl (Nat.le_refl _)
  obtain ⟨d, hd1, hd2⟩ := hu
  have hl := hn.len w
  have hdm : (match d with | .int _ => true | _ => false) = false := by cases d <;> first | rfl | exact absurd rfl (hd2 _)
  simp [Builtin.append_, run_underlying ht, run_underlying hd1, sizeOf, typeInfo, hi, hl, hf, hdm]
theorem Inv.same (hI : Inv g X m w) {w' : World} (h : w'.heap = w.heap) (h1 : w'.os = w.os) (h2 : w'.tape = w.tape) (h3 : w'.output = w.output) : Inv g X m w' ∧ Ext g m w g m w' := by
  have hx : Ext g m w g m w' := ⟨GExt.refl g, fun _ h => .inl h, by rw [h]; exact Nat.le_refl _, fun b _ _ => by rw [h], fun b hb => .inl hb, h1, h2, h3⟩
  refine ⟨hI.step hx (fun τ => ?_) hI.inj hI.far hI.fresh hI.dlt, hx⟩
  by_cases hd : g.dom τ
  · exact .inl ⟨hd, rfl, fun _ => by rw [h]⟩
  · right; rw [hI.fresh τ hd]; trivial
theorem rowFor_ok (hI : Inv g X m w) {t : Ty} {v : AV} {q : Option Nat} {xs : List t.T} (h : rowFor m t v = some (q, xs)) {cv : Value} (hv : RV g w (okB X g m) v cv) :
    (q = none ∧ cv = .slice none 0 0 ∧ xs = []) ∨ (∃ τ ys lo n, q = some τ ∧ mget τ m = .row t ys ∧ RowAt g w (okB X g m) τ t ys lo n cv ∧ xs = cut ys lo n) := by
  cases v with
  | nl => cases h; exact .inl ⟨rfl, (List.cons.inj (hv.2 rfl)).1, rfl⟩
  | sl τ =>
    have h' : (match mget τ m with
      | .row t' ys => (match Ty.conv (.slice t') (.slice t) ys with
        | some xs => some (some τ, xs)
        | none => none)
      | _ => none) = some (q, xs) := h
    cases hm : mget τ m with
    | row t' zs =>
      rw [hm] at h'
      simp only at h'
      cases hc : Ty.conv (.slice t') (.slice t) zs with
      | none => rw [hc] at h'; cases h'
      | some ys =>
        rw [hc] at h'
        cases h'
        obtain ⟨e, rfl⟩ := conv_some hc
        cases e
        have hr := rowAt_sl hI hm hv
        exact .inr ⟨τ, zs, 0, zs.length, rfl, hm, hr, by unfold cut; show zs = _; simp⟩
    | _ => rw [hm] at h'; cases h'
  | vw τ lo n sz =>
    have h' : (match mget τ m with
      | .row t' ys => (bif Nat.beq sz t'.size then (match Ty.conv (.slice t') (.slice t) (cut ys lo n) with
        | some xs => some (some τ, xs)
        | none => none) else none)
      | _ => none) = some (q, xs) := h
    cases hm : mget τ m with
    | row t' zs =>
      rw [hm] at h'
      obtain ⟨hb, h2⟩ := bif_some h'
      have hsz := Nat.eq_of_beq_eq_true hb
      subst hsz
      cases hc : Ty.conv (.slice t') (.slice t) (cut zs lo n) with
      | none => rw [hc] at h2; cases h2
      | some ys =>
        rw [hc] at h2
        cases h2
        obtain ⟨e, rfl⟩ := conv_some hc
        cases e
        exact .inr ⟨τ, zs, lo, n, rfl, hm, rowAt_vw hI hm hv, rfl⟩
    | _ => rw [hm] at h'; cases h'
  | _ => cases h
theorem nilRow_ok {m0 : Mem} {t : Ty} (hI : Inv g X m w) (hx0 : Ext g m0 w g m w) (hrun : (execOp a.eval o).run P w = .ok (.value (.slice none 0 0)) w) (h : k (.sl g.n) ((g.n, .row t []) :: m) (g.n + 1) = some r) : OpR P X o a w g m0 k kp r := by
  have hx := Ext.fresh hI (.row t []) ⟨0, 0, 0, 0, true⟩ rfl
  refine OpR.value (g' := g.new ⟨0, 0, 0, 0, true⟩) hrun h (hI.new _ _ hx (fun _ _ => rfl) (.inl rfl) ?_) ?_ (hx0.trans hx)
  · refine ⟨by rw [g.new_self]; rfl, by rw [g.new_self]; exact Nat.le_refl _, .inl ⟨by rw [g.new_self], by rw [g.new_self]⟩⟩
  · refine RV_one rfl ⟨.inr rfl, ?_⟩
    rw [g.new_self]; rfl
theorem fits_ok {n b : Nat} (h : fits n = true) (hb : b ≤ 4096) : n ≤ 4294967296 ∧ n * b ≤ 140737488355328 := by
  have h1 := Nat.le_of_ble_eq_true h
  refine ⟨h1, ?_⟩
  have h2 : n * b ≤ 4294967296 * 4096 := Nat.mul_le_mul h1 hb
  omega
theorem append_ok {c : Call} {x y : Operand} {t u : TypeId} {i j : TI} (ho : o.op = .call c) (hc : c.callee = .builtin .append) (ha : c.args.toList = [x, y]) (htt : c.argTypes.toList = [t, u]) (hi : TIok P t i) (hj : TIok P u j) (hI : Inv g X m w)
    (hf : FrOK g w (okB X g m) fr a.tmps) (hb : (Nat.beq i.kind 2 && ((Nat.beq j.kind 2 || Nat.beq j.kind 5) && Nat.ble i.bytes 4096)) = true) {q : Option Nat} {xs ys : List i.ety.T} (hq : rowFor m i.ety (ev fr x) = some (q, xs))
    (hy : elemsOf m i.ety (ev fr y) = some ys)
    (h1 : ∀ τ, q = some τ → req (fits (lenL i.ety xs + lenL i.ety ys)) (k (.sl g.n) ((g.n, .row i.ety (xs ++ ys)) :: (τ, .gone) :: m) (g.n + 1)) = some r)
    (h2 : q = none → req (fits (lenL i.ety ys)) (k (.sl g.n) ((g.n, .row i.ety ys) :: m) (g.n + 1)) = some r) : OpR P X o a w g m k kp r := by
  simp only [Bool.and_eq_true, Bool.or_eq_true] at hb
  obtain ⟨hb1, hb2, hb3⟩ := hb
  obtain ⟨e, fi, ez, k1, k2, k3, k4, k5, k6, k7, k8⟩ := hi.slice (Nat.eq_of_beq_eq_true hb1)
  have hby : fi.bytes ≤ 4096 := by rw [k4]; exact Nat.le_of_ble_eq_true hb3
  have hu : ∃ d, P.underlying u = some d ∧ ∀ k, d ≠ .int k := by
    rcases hb2 with hb2 | hb2
    · obtain ⟨e', _, _, q1, _⟩ := hj.slice (Nat.eq_of_beq_eq_true hb2)
      exact ⟨_, q1, fun k e => by cases e⟩
    · exact ⟨_, hj.str (Nat.eq_of_beq_eq_true hb2), fun k e => by cases e⟩
  have hxv := ev_ok hf x
  have hyv := ev_ok hf y
  obtain ⟨news, n1, n2⟩ := elemsOf_ok (P := P) hI hy hyv
  rw [← k3] at n2
  have hez : ez.cells.size = fi.size := by have := Rd_len w (fun _ => True) _ _ _ (k6 w (fun _ => True)); simpa [k3] using this
  have ea : c.args = #[x, y] := by apply Array.toList_inj.1; simpa using ha
  have et : c.argTypes = #[t, u] := by apply Array.toList_inj.1; simpa using htt
  have fin : ∀ v w', (Builtin.append_ #[t, u] o.type #[a.eval x, a.eval y]).run P w = .ok v w' → (execOp a.eval o).run P w = .ok (.value v) w' := by
    intro v w' hr
    unfold execOp
    simp [ho, resolve, hc, ea, et, invoke, builtin, hr]
  have hR := fun x cs h => Rd_len w (okB X g m) i.ety x cs h
  have grow : ∀ (b : Option Addr) (sLen sCap : Nat) (olds : List Value) (m1 : Mem) (zs : List i.ety.T), a.eval x = .slice b sLen sCap → ElOK P w fi.size (.slice b sLen sCap) sLen olds → sCap < sLen + ys.length → zs.length = sLen → fits (sLen + ys.length) = true →
      Inv g X m1 w → Ext g m w g m1 w → RdL (Rd w (okB X g m1) i.ety) (zs ++ ys) (olds ++ news) → k (.sl g.n) ((g.n, .row i.ety (zs ++ ys)) :: m1) (g.n + 1) = some r → OpR P X o a w g m k kp r := by
    intro b sLen sCap olds m1 zs hx1 hx2 hlt hz hfit hI1 he1 hrd hk
    obtain ⟨f1, f2⟩ := fits_ok hfit hby
    have hrun := run_app_grow (w := w) t u o.type e fi ez k1 hu k2 k5 b sLen sCap ys.length (a.eval y) olds news hx2 n2 hlt (by omega) (growslice_fits hlt f2)
    rw [← hx1] at hrun
    obtain ⟨hI2, he2⟩ := hI1.same (w' := w.drew) rfl rfl rfl rfl
    have hge := grownCap_ge w (sLen + ys.length) sCap e
    have hl2 : (zs ++ ys).length = sLen + ys.length := by rw [List.length_append, hz]
    refine newRow_ok (w1 := w.drew) (cs := olds ++ news) hI2 (RdL_mono (fun x cs => Rd_mono he2.holds _ x cs) _ _ hrd) (fun jj v hv => ?_) (cap := grownCap w (sLen + ys.length) sCap e) (by rw [hl2]; exact hge) ?_ (he1.trans he2) (by rw [hl2]; exact fin _ _ hrun) hk
    · have hlt2 : jj < (olds ++ news).length := (List.getElem?_eq_some_iff.1 hv).1
      rw [← Array.getElem?_toList]
      simp only [Array.toList_append, List.toList_toArray]
      rw [List.getElem?_append_left hlt2]; exact hv
    · simp only [Array.size_append, List.size_toArray, size_zeroCells, hez, hx2.clen, n2.clen, ← k3]
      rw [← Nat.add_mul, ← Nat.add_mul]
      exact Nat.mul_le_mul_right _ (by omega)
  rcases rowFor_ok hI hq hxv with ⟨rfl, hcv, rfl⟩ | ⟨τ, zs, lo, n, rfl, hm, hrow, rfl⟩
  · obtain ⟨hfit, hk⟩ := req_some (h2 rfl)
    by_cases h0 : ys.length = 0
    · have hys : ys = [] := List.eq_nil_of_length_eq_zero h0
      subst hys
      refine nilRow_ok hI (Ext.refl _ _ _) (fin _ _ ?_) hk
      rw [hcv]
      exact run_app_none t u o.type e fi k1 hu k2 0 _ news n2
    · exact grow none 0 0 [] m [] hcv ElOK.nil (by omega) rfl (by rw [Nat.zero_add]; exact hfit) hI (Ext.refl _ _ _) (by simpa using n1) (by simpa using hk)
  · obtain ⟨hfit, hk⟩ := req_some (h1 τ rfl)
    have hlv0 : (mget τ m).live = true := by rw [hm]; rfl
    have hτ := hI.live_lt hlv0
    have hcl : (cut zs lo n).length = n := cut_len hrow.fit
    have hfit' : fits (n + ys.length) = true := by
      have : lenL i.ety (cut zs lo n) + lenL i.ety ys = n + ys.length := by unfold lenL; rw [hcl]
      rw [← this]; exact hfit
    obtain ⟨olds, o1, o2⟩ := hrow.el (P := P)
    rw [← k3] at o2
    obtain ⟨ad, hcv, hval⟩ := hrow.val
    rw [hcv] at o2
    by_cases hroom : n + ys.length ≤ (g.loc τ).cap - lo
    · rcases hval with ⟨p1, rfl, p3, rfl⟩ | ⟨p1, off, cc, ee, cells, rfl, p2, p3, p4, p5, p6, p7⟩
      · have h0 : ys.length = 0 := by omega
        have hys : ys = [] := List.eq_nil_of_length_eq_zero h0
        have hn0 : n = 0 := by omega
        subst hys
        have hcut : cut ([] : List i.ety.T) lo n = [] := by unfold cut; simp
        rw [hcut] at hk
        have hI1 := hI.kill τ hτ
        refine nilRow_ok hI1 (Ext.kill τ) (fin _ _ ?_) hk
        rw [hcv, p3, hn0, Nat.zero_sub]
        exact run_app_none t u o.type e fi k1 hu k2 0 _ news n2
      · have hsz : fi.size = i.ety.size := k3
        have hmul : (n + ys.length) * i.ety.size ≤ ((g.loc τ).cap - lo) * i.ety.size := Nat.mul_le_mul_right _ hroom
        have hrun := run_app_room (P := P) t u o.type e fi k1 hu k2 (g.loc τ).blk off n ((g.loc τ).cap - lo) ys.length (a.eval y) cc ee p4 news n2 hroom (by rw [hsz]; omega)
        rw [← hcv] at hrun
        generalize hN : (cc.toList.take (off + n * fi.size) ++ news ++ cc.toList.drop (off + n * fi.size + news.length)) = nc at hrun
        have hnews := n2.clen
        rw [hsz] at hnews hN
        rw [Nat.add_mul] at hmul
        have hncl : nc.length = cc.size := by
          rw [← hN]; simp only [List.length_append, List.length_take, List.length_drop, Array.length_toList]; omega
        have hlive : Lv g m τ := ⟨hlv0, p1⟩
        have hoth : ∀ b, b ≠ (g.loc τ).blk → (w.setRow (g.loc τ).blk nc.toArray).heap[b]? = w.heap[b]? := fun b hb => setRow_other w _ b _ hb
        have hh' := setRow_heap w (g.loc τ).blk cc nc.toArray ee _ p4
        have hs := setRow_size w (g.loc τ).blk nc.toArray
        have hx' := Ext.move hI.ndom hlive (.row i.ety (cut zs lo n ++ ys)) ⟨(g.loc τ).blk, off, n + ys.length, (g.loc τ).cap - lo, false⟩ rfl hs hoth rfl rfl rfl
        have holdl := o2.clen
        rw [hsz] at holdl
        refine OpR.value (fin _ _ hrun) hk (hI.move hlive _ ⟨(g.loc τ).blk, off, n + ys.length, (g.loc τ).cap - lo, false⟩ rfl hs hoth rfl rfl rfl ?_) ?_ hx'
        · refine ⟨by rw [g.new_self, List.length_append, hcl], by rw [g.new_self]; exact hroom, .inr ⟨by rw [g.new_self], nc.toArray, ee, (cells.drop (lo * i.ety.size)).take (n * i.ety.size) ++ news, ?_, ?_, ?_, ?_⟩⟩
          · rw [g.new_self]; exact hh'
          · refine RdL_append _ _ _ _ (RdL_mono (fun x cs => Rd_mono hx'.holds _ x cs) _ _ (RdL_split hR _ _ (RdL_split hR zs cells p5 lo).2 n).1) (RdL_mono (fun x cs => Rd_mono hx'.holds _ x cs) _ _ n1)
          · rw [g.new_self]
            intro jj v hv
            rw [List.getElem?_toArray, ← hN]
            have hcl2 := RdL_len hR zs cells p5
            have hlen1 : ((cells.drop (lo * i.ety.size)).take (n * i.ety.size)).length = n * i.ety.size := by
              rw [List.length_take, List.length_drop, hcl2]
              have := Nat.mul_le_mul_right i.ety.size hrow.fit
              rw [Nat.add_mul] at this; omega
            have htk : (cc.toList.take (off + n * i.ety.size)).length = off + n * i.ety.size := by
              rw [List.length_take, Array.length_toList]; omega
            by_cases hj : jj < n * i.ety.size
            · have hn0 : 0 < n := by
                rcases Nat.eq_zero_or_pos n with h | h
                · rw [h, Nat.zero_mul] at hj; omega
                · exact h
              rw [List.getElem?_append_left (by rw [hlen1]; exact hj), List.getElem?_take_of_lt hj, List.getElem?_drop] at hv
              show (cc.toList.take (off + n * i.ety.size) ++ news ++ _)[off + jj]? = some v
              rw [List.append_assoc, List.getElem?_append_left (by rw [htk]; omega), List.getElem?_take_of_lt (by omega), p2 (by have := hrow.len; have := hrow.cap; have := hrow.fit; omega), Nat.add_assoc]
              have := p6 _ _ hv
              simpa using this
            · rw [List.getElem?_append_right (by rw [hlen1]; omega), hlen1] at hv
              have hlt2 : jj - n * i.ety.size < news.length := (List.getElem?_eq_some_iff.1 hv).1
              show (cc.toList.take (off + n * i.ety.size) ++ news ++ _)[off + jj]? = some v
              rw [List.append_assoc, List.getElem?_append_right (by rw [htk]; omega), htk, List.getElem?_append_left (by omega), show off + jj - (off + n * i.ety.size) = jj - n * i.ety.size by omega]
              exact hv
          · rw [g.new_self]
            simp only [List.size_toArray, hncl]; exact p3
        · refine RV_one rfl ⟨.inr rfl, ?_⟩
          rw [g.new_self]; rfl
    · have hI1 := hI.kill τ hτ
      refine grow ad n ((g.loc τ).cap - lo) olds ((τ, .gone) :: m) (cut zs lo n) hcv o2 (by omega) hcl hfit' hI1 (Ext.kill τ) ?_ hk
      exact RdL_mono (fun x cs => Rd_mono (Ext.kill τ).holds _ x cs) _ _ (RdL_append _ _ _ _ o1 n1)
end
end Go.Proofs.Ytkeolcgggondnaa.VX
