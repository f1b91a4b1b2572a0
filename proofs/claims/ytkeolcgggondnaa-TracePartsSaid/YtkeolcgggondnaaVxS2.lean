/- The engine, part S2: parts of slices, new rows, copies, least and greatest. -/
import Derived.Test.YtkeolcgggondnaaVxS
set_option linter.unusedVariables false
set_option linter.unusedSimpArgs false
namespace Go.Proofs.Ytkeolcgggondnaa.VX
section
variable {P : Program} {C : Ctx} {X : Nat → Prop} {R : Type} {o : Oper} {a : Act} {w : World} {g : G} {m : Mem} {k kp : AV → Mem → Nat → Option R} {r : R} {fr : Fr}
def Bnd (d : Int) (v : Option Value) (n : Int) : Prop := (v = none ∧ n = d) ∨ ∃ kk, v = some (.int kk n)
theorem ioOf_ok {ok : Nat → Prop} (hf : FrOK g w ok fr a.tmps) {d n : Int} {x : Option Operand} (h : ioOf fr d x = some n) : Bnd d (x.map a.eval) n := by
  cases x with
  | none => cases h; exact .inl ⟨rfl, rfl⟩
  | some x =>
    have hx := ev_ok hf x
    simp only [ioOf] at h
    split at h
    · rename_i kk q hq
      cases h
      rw [hq] at hx
      exact .inr ⟨kk, by show some (a.eval x) = _; rw [int_get hx]⟩
    · cases h
theorem sub3_iff {l h : Int} {n : Nat} (hb : sub3 l h n = true) : 0 ≤ l ∧ l ≤ h ∧ h ≤ n := by
  simp only [sub3, Bool.and_eq_true, decide_eq_true_eq] at hb
  exact hb
theorem run_bounds (isS : Bool) {len cap : Nat} {low high : Option Value} {l h : Int} (hl : Bnd 0 low l) (hh : Bnd len high h) (hb : 0 ≤ l ∧ l ≤ h ∧ h ≤ len) (hc : len ≤ cap) :
    (Instr.sliceBounds isS len cap low high none).run P w = .ok (l.toNat, h.toNat, cap) w := by
  obtain ⟨b1, b2, b3⟩ := hb
  have e1 : ∀ (kk : IntKind) (code : BoundsCode), (Instr.sliceBound (.int kk h) cap code).run P w = .ok h.toNat w := by
    intro kk code
    simp [Instr.sliceBound, asIntOf, show 0 ≤ h ∧ h ≤ (cap : Int) by omega]
  have e2 : ∀ (kk : IntKind) (code : BoundsCode) (y : Nat), l ≤ y → (Instr.sliceBound (.int kk l) y code).run P w = .ok l.toNat w := by
    intro kk code y hy
    simp [Instr.sliceBound, asIntOf, b1, hy]
  rcases hl with ⟨rfl, rfl⟩ | ⟨kl, rfl⟩
  · rcases hh with ⟨rfl, rfl⟩ | ⟨kh, rfl⟩
    · simp [Instr.sliceBounds]
    · simp [Instr.sliceBounds, e1]
  · rcases hh with ⟨rfl, rfl⟩ | ⟨kh, rfl⟩
    · have := e2 kl .sliceB len (by omega)
      simp [Instr.sliceBounds, this]
    · have := e2 kl .sliceB h.toNat (by omega)
      simp [Instr.sliceBounds, e1, this]
theorem run_sliceS {xt e : TypeId} {fi : TypeInfo} (ht : P.underlying xt = some (.slice e)) (hi : P.info? e = some fi) {ad : Option Addr} {len cap : Nat} {low high : Option Value} {l h : Int} (hl : Bnd 0 low l) (hh : Bnd len high h) (hb : 0 ≤ l ∧ l ≤ h ∧ h ≤ len) (hc : len ≤ cap) :
    (Instr.slice xt (.slice ad len cap) low high none).run P w = .ok (.slice (if cap = l.toNat then ad else ad.map (·.add (l.toNat * fi.size))) (h.toNat - l.toNat) (cap - l.toNat)) w := by
  have := run_bounds (P := P) (w := w) true hl hh hb hc
  simp [Instr.slice, run_underlying ht, this, sizeOf, typeInfo, hi]
theorem run_sliceStr {xt : TypeId} (ht : P.underlying xt = some .string) {s : ByteArray} {low high : Option Value} {l h : Int} (hl : Bnd 0 low l) (hh : Bnd s.size high h) (hb : 0 ≤ l ∧ l ≤ h ∧ h ≤ s.size) :
    (Instr.slice xt (.string s) low high none).run P w = .ok (.string (s.extract l.toNat h.toNat)) w := by
  have := run_bounds (P := P) (w := w) false hl hh hb (Nat.le_refl _)
  simp [Instr.slice, run_underlying ht, this]
/-- A part of what reads as a row. -/
theorem Rd_cut {ok : Nat → Prop} {t : Ty} {xs : List t.T} {ad : Option Addr} {len cap : Nat} (h : Rd w ok (.slice t) xs [.slice ad len cap]) {l n : Nat} (hb : l + n ≤ xs.length) :
    len = xs.length ∧ xs.length ≤ cap ∧ Rd w ok (.slice t) (cut xs l n) [.slice (if cap = l then ad else ad.map (·.add (l * t.size))) n (cap - l)] := by
  obtain ⟨ad', cap', e, h2, h3⟩ := h
  have e := (List.cons.inj e).1
  simp only [Value.slice.injEq] at e
  obtain ⟨rfl, e2, rfl⟩ := e
  have hl : (cut xs l n).length = n := cut_len hb
  refine ⟨e2, h2, _, _, by rw [hl], by rw [hl]; omega, ?_⟩
  by_cases hn : n = 0
  · left; exact List.eq_nil_of_length_eq_zero (by rw [hl]; exact hn)
  · right
    rcases h3 with h3 | ⟨b, cells, rfl, k1, k2⟩
    · subst h3; simp at hb; omega
    · have hR := fun x cs h => Rd_len w ok t x cs h
      rw [if_neg (by omega)]
      obtain ⟨s1, s2, c, e', frz, s3, s4⟩ := k2
      obtain ⟨bb, off, sp⟩ := b
      cases s1
      refine ⟨_, (cells.drop (l * t.size)).take (n * t.size), rfl, (RdL_split hR _ _ (RdL_split hR xs cells k1 l).2 n).1, ?_⟩
      simp only [add_none]
      refine ⟨rfl, s2, c, e', frz, s3, fun j u hu => ?_⟩
      rw [List.getElem?_take] at hu
      split at hu
      · rw [List.getElem?_drop] at hu
        show c[off + l * t.size + j]? = _
        rw [Nat.add_assoc]
        exact s4 _ _ hu
      · cases hu
theorem vok_cut {L : Loc} {lo q sz : Nat} {ad : Option Addr} {len cap : Nat} (h : L.vok lo q sz (.slice ad len cap)) {l n : Nat} (hb : l + n ≤ q) :
    len = q ∧ q ≤ cap ∧ L.vok (lo + l) n sz (.slice (if cap = l then ad else ad.map (·.add (l * sz))) n (cap - l)) := by
  obtain ⟨⟨h1, hcap⟩, ad', e, h3⟩ := h
  simp only [Value.slice.injEq] at e
  obtain ⟨rfl, rfl, rfl⟩ := e
  refine ⟨rfl, by omega, ⟨by omega, hcap⟩, _, by rw [show L.cap - lo - l = L.cap - (lo + l) by omega], ?_⟩
  rcases h3 with ⟨n1, rfl⟩ | ⟨n1, off, rfl, q1, q2⟩
  · exact .inl ⟨n1, by split <;> rfl⟩
  · refine .inr ⟨n1, ?_⟩
    by_cases hc : L.cap - lo = l
    · rw [if_pos hc]
      exact ⟨off, rfl, fun h => by omega, q2⟩
    · rw [if_neg hc]
      refine ⟨off + l * sz, by simp only [Option.map_some, add_none], fun h => ?_, ?_⟩
      · rw [q1 (by omega), Nat.add_mul]; omega
      · rw [q1 (by omega)]
        have := Nat.mul_le_mul_right sz (show lo + l ≤ L.cap by omega)
        rw [Nat.add_mul] at this; omega
theorem slice_ok {t : TypeId} {i : TI} {x : Operand} {lo hi : Option Operand} (ho : o.op = .slice t x lo hi none) (hti : TIok P t i) (hI : Inv g X m w) (hf : FrOK g w (okB X g m) fr a.tmps)
    (h : sliceA i m (fun d => ioOf fr d lo) (fun d => ioOf fr d hi) (fun v => k v m g.n) (ev fr x) = some r) : OpR P X o a w g m k kp r := by
  have hx := ev_ok hf x
  have fin : ∀ d v, P.underlying t = some d → (∀ n e, d ≠ .array n e) → (Instr.slice t (a.eval x) (lo.map a.eval) (hi.map a.eval) none).run P w = .ok v w → (execOp a.eval o).run P w = .ok (.value v) w := by
    intro d v hu hd hr
    unfold execOp
    cases d <;> first | exact absurd rfl (hd _ _) | simp [ho, Instr.sliceAt, run_underlying hu, hr]
  have bnd : ∀ {R' : Type} (d : Int) (K : Int → Int → Option R') (r : R'), (match ioOf fr 0 lo, ioOf fr d hi with | some l, some h => K l h | _, _ => none) = some r → ∃ l h, Bnd 0 (lo.map a.eval) l ∧ Bnd d (hi.map a.eval) h ∧ K l h = some r := by
    intro R' d K r hh
    split at hh
    · rename_i l h e1 e2
      exact ⟨l, h, ioOf_ok hf e1, ioOf_ok hf e2, hh⟩
    · cases hh
  have dat : ∀ (e : Ty) (xs : List e.T), RV g w (okB X g m) (.d (.slice e) xs) (a.eval x) → (bif Nat.beq i.kind 2 && Nat.beq e.size i.ety.size then (match ioOf fr 0 lo, ioOf fr (lenL e xs) hi with
      | some l, some h => req (sub3 l h (lenL e xs)) (k (.d (.slice e) (cut xs (toN l) (toN h - toN l))) m g.n)
      | _, _ => none) else none) = some r → OpR P X o a w g m k kp r := by
    intro e xs hx hh
    obtain ⟨hb, h1⟩ := bif_some hh
    rw [Bool.and_eq_true] at hb
    obtain ⟨l, h, bl, bh, h2⟩ := bnd _ _ _ h1
    obtain ⟨h3, h4⟩ := req_some h2
    obtain ⟨s1, s2, s3⟩ := sub3_iff h3
    obtain ⟨el, fi, ez, k1, k2, k3, _⟩ := hti.slice (Nat.eq_of_beq_eq_true hb.1)
    have hsz : fi.size = e.size := k3.trans (Nat.eq_of_beq_eq_true hb.2).symm
    have hrd := hx.2 rfl
    obtain ⟨ad, cap, e1, e2, _⟩ := id hrd
    have e1 := (List.cons.inj e1).1
    rw [e1] at hrd
    obtain ⟨_, _, hcut⟩ := Rd_cut hrd (l := l.toNat) (n := h.toNat - l.toNat) (by unfold lenL at s3; omega)
    refine OpR.value (fin _ _ k1 (fun n e h => by cases h) ?_) h4 hI (RV_one rfl hcut) (Ext.refl _ _ _)
    have hrun := run_sliceS (P := P) (w := w) (ad := ad) k1 k2 bl bh ⟨s1, s2, s3⟩ e2
    rw [hsz] at hrun
    rw [e1]; exact hrun
  generalize hq : ev fr x = q at h hx
  cases q with
  | d ty xs =>
    cases ty with
    | str =>
      have h' : (bif Nat.beq i.kind 5 then (match ioOf fr 0 lo, ioOf fr (lenS xs) hi with
        | some l, some h => req (sub3 l h (lenS xs)) (k (.d .str (cut xs (toN l) (toN h - toN l))) m g.n)
        | _, _ => none) else none) = some r := h
      obtain ⟨hb, h1⟩ := bif_some h'
      obtain ⟨l, h, bl, bh, h2⟩ := bnd _ _ _ h1
      obtain ⟨h3, h4⟩ := req_some h2
      obtain ⟨s1, s2, s3⟩ := sub3_iff h3
      obtain ⟨ba, e1, e2⟩ := str_get hx
      have hsz : lenS xs = ba.size := by unfold lenS; rw [size_data, e2]
      rw [hsz] at bh s3
      refine OpR.value (fin _ _ (hti.str (Nat.eq_of_beq_eq_true hb)) (fun n e h => by cases h) ?_) h4 hI (str_mk (ba := ba.extract l.toNat h.toNat) ?_) (Ext.refl _ _ _)
      · rw [e1]; exact run_sliceStr (hti.str (Nat.eq_of_beq_eq_true hb)) bl bh ⟨s1, s2, s3⟩
      · rw [← e2]
        unfold cut toN
        rw [ByteArray.data_extract]
        simp only [Array.toList_extract, List.extract_eq_take_drop]
    | slice e => exact dat e xs hx h
    | _ => cases h
  | nl =>
    have h' : (bif Nat.beq i.kind 2 then (match ioOf fr 0 lo, ioOf fr 0 hi with
        | some l, some h => req (sub3 l h 0) (k .nl m g.n)
        | _, _ => none) else none) = some r := h
    obtain ⟨hb, h1⟩ := bif_some h'
    obtain ⟨l, h, bl, bh, h2⟩ := bnd _ _ _ h1
    obtain ⟨h3, h4⟩ := req_some h2
    obtain ⟨s1, s2, s3⟩ := sub3_iff h3
    obtain ⟨el, fi, ez, k1, k2, k3, _⟩ := hti.slice (Nat.eq_of_beq_eq_true hb)
    have e1 : a.eval x = .slice none 0 0 := (List.cons.inj (hx.2 rfl)).1
    have hl0 : l = 0 := by omega
    have hh0 : h = 0 := by omega
    subst hl0 hh0
    refine OpR.value (cv := .slice none 0 0) (fin _ _ k1 (fun n e h => by cases h) ?_) h4 hI (RV_one rfl rfl) (Ext.refl _ _ _)
    rw [e1, run_sliceS k1 k2 bl bh ⟨s1, s2, s3⟩ (Nat.le_refl _)]
    rfl
  | sl τ =>
    cases hm : mget τ m with
    | row e xs =>
      have h' : (match mget τ m with
        | .row e xs => (bif Nat.beq i.kind 2 && Nat.beq e.size i.ety.size then (match ioOf fr 0 lo, ioOf fr (lenL e xs) hi with
          | some l, some h => req (sub3 l h (lenL e xs)) (k (.vw τ (toN l) (toN h - toN l) e.size) m g.n)
          | _, _ => none) else none)
        | .frz e xs => (bif Nat.beq i.kind 2 && Nat.beq e.size i.ety.size then (match ioOf fr 0 lo, ioOf fr (lenL e xs) hi with
          | some l, some h => req (sub3 l h (lenL e xs)) (k (.d (.slice e) (cut xs (toN l) (toN h - toN l))) m g.n)
          | _, _ => none) else none)
        | _ => none) = some r := h
      rw [hm] at h'
      obtain ⟨hb, h1⟩ := bif_some h'
      rw [Bool.and_eq_true] at hb
      obtain ⟨l, h, bl, bh, h2⟩ := bnd _ _ _ h1
      obtain ⟨h3, h4⟩ := req_some h2
      obtain ⟨s1, s2, s3⟩ := sub3_iff h3
      obtain ⟨el, fi, ez, k1, k2, k3, _⟩ := hti.slice (Nat.eq_of_beq_eq_true hb.1)
      have hsz : fi.size = e.size := k3.trans (Nat.eq_of_beq_eq_true hb.2).symm
      obtain ⟨q1, q2⟩ := sl_get hx
      have hrow := rowAt_sl hI hm hx
      have hlen := hrow.len
      have hcap := hrow.cap
      have hvok : (g.loc τ).vok 0 xs.length e.size (a.eval x) := by
        obtain ⟨ad, e1, e2⟩ := hrow.val
        refine ⟨⟨by omega, hcap⟩, ad, e1, ?_⟩
        rcases e2 with ⟨n1, n2, _⟩ | ⟨n1, off, c, ee, cells, n2, n3, n4, n5, n6, n7, n8⟩
        · exact .inl ⟨n1, n2⟩
        · refine .inr ⟨n1, off, n2, n3, ?_⟩
          by_cases h0 : 0 < (g.loc τ).cap
          · rw [n3 h0]; omega
          · have hoff : off = (g.loc τ).base := by
              rw [q2] at e1
              unfold Loc.sv at e1
              rw [n1, n2] at e1
              simp only [cond_false, Value.slice.injEq, Option.some.injEq, Addr.mk.injEq] at e1
              exact e1.1.2.1.symm
            rw [hoff]; omega
      obtain ⟨ad, e1, _⟩ := hrow.val
      rw [e1] at hvok
      unfold lenL at s3 bh
      obtain ⟨_, _, hv⟩ := vok_cut hvok (l := l.toNat) (n := h.toNat - l.toNat) (by omega)
      rw [Nat.zero_add] at hv
      refine OpR.value (fin _ _ k1 (fun n e h => by cases h) ?_) h4 hI (RV_one rfl ⟨q1, _, rfl, hv⟩) (Ext.refl _ _ _)
      rw [e1, run_sliceS k1 k2 bl bh ⟨s1, s2, s3⟩ (by omega), hsz]
    | frz e xs =>
      have h' : (match mget τ m with
        | .row e xs => (bif Nat.beq i.kind 2 && Nat.beq e.size i.ety.size then (match ioOf fr 0 lo, ioOf fr (lenL e xs) hi with
          | some l, some h => req (sub3 l h (lenL e xs)) (k (.vw τ (toN l) (toN h - toN l) e.size) m g.n)
          | _, _ => none) else none)
        | .frz e xs => (bif Nat.beq i.kind 2 && Nat.beq e.size i.ety.size then (match ioOf fr 0 lo, ioOf fr (lenL e xs) hi with
          | some l, some h => req (sub3 l h (lenL e xs)) (k (.d (.slice e) (cut xs (toN l) (toN h - toN l))) m g.n)
          | _, _ => none) else none)
        | _ => none) = some r := h
      rw [hm] at h'
      exact dat e xs (frz_rv hI hm hx) h'
    | _ =>
      have h' := h
      simp only [sliceA, hm] at h'
      cases h'
  | vw τ lo' q sz =>
    have h' : (bif Nat.beq i.kind 2 && Nat.beq sz i.ety.size then (match ioOf fr 0 lo, ioOf fr (q : Int) hi with
        | some l, some h => req (sub3 l h q) (k (.vw τ (lo' + toN l) (toN h - toN l) sz) m g.n)
        | _, _ => none) else none) = some r := h
    obtain ⟨hb, h1⟩ := bif_some h'
    rw [Bool.and_eq_true] at hb
    obtain ⟨l, h, bl, bh, h2⟩ := bnd _ _ _ h1
    obtain ⟨h3, h4⟩ := req_some h2
    obtain ⟨s1, s2, s3⟩ := sub3_iff h3
    obtain ⟨el, fi, ez, k1, k2, k3, _⟩ := hti.slice (Nat.eq_of_beq_eq_true hb.1)
    have hsz : fi.size = sz := k3.trans (Nat.eq_of_beq_eq_true hb.2).symm
    obtain ⟨q1, q2⟩ := vw_get hx
    obtain ⟨⟨v1, _⟩, ad, e1, v3⟩ := id q2
    rw [e1] at q2
    obtain ⟨_, hqc, hv⟩ := vok_cut q2 (l := l.toNat) (n := h.toNat - l.toNat) (by omega)
    refine OpR.value (fin _ _ k1 (fun n e h => by cases h) ?_) h4 hI (RV_one rfl ⟨q1, _, rfl, hv⟩) (Ext.refl _ _ _)
    have hrun := run_sliceS (P := P) (w := w) (ad := ad) k1 k2 bl bh ⟨s1, s2, s3⟩ hqc
    rw [hsz] at hrun
    rw [e1]; exact hrun
  | _ => cases h
theorem getElem!_none' {α : Type} [Inhabited α] (z : Array α) (i : Nat) (h : i < z.size) : z[i]? = some z[i]! := by
  rw [getElem!_pos z i h]; exact getElem?_pos z i h
theorem madeCells_drop (z : Array Value) (n : Nat) : (madeCells z (z.size + n)).toList = z.toList ++ (madeCells z n).toList := by
  apply List.ext_getElem?
  intro j
  by_cases hj : j < z.size
  · rw [List.getElem?_append_left (by simpa using hj)]
    unfold madeCells
    simp only [Array.getElem?_toList, Array.getElem?_map, Array.getElem?_range, Array.size_range]
    rw [if_pos (by omega)]
    simp only [Option.map_some, Nat.mod_eq_of_lt hj]
    exact (getElem!_none' z j hj).symm
  · rw [List.getElem?_append_right (by simpa using hj)]
    unfold madeCells
    simp only [Array.getElem?_toList, Array.getElem?_map, Array.getElem?_range, Array.length_toList]
    by_cases h2 : j - z.size < n
    · rw [if_pos (by omega), if_pos h2]
      simp only [Option.map_some]
      have : j % z.size = (j - z.size) % z.size := Nat.mod_eq_sub_mod (by omega)
      rw [this]
    · rw [if_neg (by omega), if_neg h2]
theorem RdL_made {ok : Nat → Prop} {t : Ty} {z : Array Value} (hz : Rd w ok t t.zero z.toList) (hs : z.size = t.size) : ∀ n, RdL (Rd w ok t) (List.replicate n t.zero) (madeCells z (n * t.size)).toList
  | 0 => by simp [madeCells, RdL]
  | n + 1 => by
    refine ⟨z.toList, (madeCells z (n * t.size)).toList, ?_, hz, RdL_made hz hs n⟩
    rw [show (n + 1) * t.size = z.size + n * t.size by rw [hs, Nat.add_mul]; omega]
    exact madeCells_drop z _
theorem madeCells_pre (z : Array Value) {a b : Nat} (h : a ≤ b) : ∀ (j : Nat) (v : Value), (madeCells z a).toList[j]? = some v → (madeCells z b)[j]? = some v := by
  intro j v hv
  unfold madeCells at hv ⊢
  simp only [Array.getElem?_toList, Array.getElem?_map, Array.getElem?_range] at hv ⊢
  split at hv
  · rw [if_pos (by omega)]; exact hv
  · cases hv
theorem makeSlice_ok {t : TypeId} {i : TI} {x y : Operand} (ho : o.op = .makeSlice t x y) (hi : TIok P t i) (hI : Inv g X m w) {kx ky : IntKind} {n c : Int} (hx : RV g w (okB X g m) (.d (.int kx) n) (a.eval x)) (hy : RV g w (okB X g m) (.d (.int ky) c) (a.eval y))
    (h : (bif Nat.beq i.kind 2 && Nat.ble i.bytes 4096 then req (mkOK n c) (k (.sl g.n) ((g.n, .row i.ety (List.replicate (toN n) i.ety.zero)) :: m) (g.n + 1)) else none) = some r) : OpR P X o a w g m k kp r := by
  obtain ⟨hb, h1⟩ := bif_some h
  rw [Bool.and_eq_true] at hb
  obtain ⟨h2, h3⟩ := req_some h1
  simp only [mkOK, Bool.and_eq_true, decide_eq_true_eq] at h2
  obtain ⟨n0, n1, n2⟩ := h2
  obtain ⟨e, fi, ez, k1, k2, k3, k4, k5, k6, k7, k8⟩ := hi.slice (Nat.eq_of_beq_eq_true hb.1)
  have hby : fi.bytes ≤ 4096 := by rw [k4]; exact Nat.le_of_ble_eq_true hb.2
  obtain ⟨f1, f2⟩ := fits_ok n2 hby
  unfold toN at f1 f2
  have hez : ez.cells.size = i.ety.size := by have := Rd_len w (fun _ => True) _ _ _ (k6 w (fun _ => True)); simpa using this
  have hby2 : (fi.bytes : Int) * c ≤ 281474976710656 := by
    have h4 : ((c.toNat * fi.bytes : Nat) : Int) ≤ 140737488355328 := by omega
    rw [Int.natCast_mul, Int.toNat_of_nonneg (by omega), Int.mul_comm] at h4
    omega
  have hrun := run_make (P := P) w t e fi ez k1 k2 k5 kx ky n c n0 n1 hby2 (by omega)
  rw [← int_get hx, ← int_get hy, k3] at hrun
  have hl : (List.replicate n.toNat i.ety.zero).length = n.toNat := by simp
  have hle : n.toNat * i.ety.size ≤ c.toNat * i.ety.size := Nat.mul_le_mul_right _ (by omega)
  refine newRow_ok (cells := madeCells ez.cells (c.toNat * i.ety.size)) (e := e) (cap := c.toNat) (cs := (madeCells ez.cells (n.toNat * i.ety.size)).toList) hI (RdL_made (k6 w _) hez n.toNat) (madeCells_pre _ hle) (by rw [hl]; omega) (by rw [size_madeCells]; exact Nat.le_refl _) (Ext.refl _ _ _) ?_ h3
  rw [hl]
  unfold execOp
  simp [ho, hrun]
theorem dstFor_ok (hI : Inv g X m w) {t : Ty} {v : AV} {τ lo n : Nat} {xs : List t.T} (h : dstFor m t v = some (τ, lo, n, xs)) {cv : Value} (hv : RV g w (okB X g m) v cv) : mget τ m = .row t xs ∧ RowAt g w (okB X g m) τ t xs lo n cv := by
  cases v with
  | sl σ =>
    have h' : (match mget σ m with
      | .row t' ys => (match Ty.conv (.slice t') (.slice t) ys with
        | some xs => some (σ, 0, lenL t xs, xs)
        | none => none)
      | _ => none) = some (τ, lo, n, xs) := h
    cases hm : mget σ m with
    | row t' zs =>
      rw [hm] at h'
      simp only at h'
      cases hc : Ty.conv (.slice t') (.slice t) zs with
      | none => rw [hc] at h'; cases h'
      | some ys =>
        rw [hc] at h'
        cases h'
        obtain ⟨e, rfl⟩ := conv_some hc
        cases e
        exact ⟨hm, rowAt_sl hI hm hv⟩
    | _ => rw [hm] at h'; cases h'
  | vw σ lo' n' sz =>
    have h' : (match mget σ m with
      | .row t' ys => (bif Nat.beq sz t'.size then (match Ty.conv (.slice t') (.slice t) ys with
        | some xs => some (σ, lo', n', xs)
        | none => none) else none)
      | _ => none) = some (τ, lo, n, xs) := h
    cases hm : mget σ m with
    | row t' zs =>
      rw [hm] at h'
      obtain ⟨hb, h2⟩ := bif_some h'
      have hsz := Nat.eq_of_beq_eq_true hb
      subst hsz
      cases hc : Ty.conv (.slice t') (.slice t) zs with
      | none => rw [hc] at h2; cases h2
      | some ys =>
        rw [hc] at h2
        cases h2
        obtain ⟨e, rfl⟩ := conv_some hc
        cases e
        exact ⟨hm, rowAt_vw hI hm hv⟩
    | _ => rw [hm] at h'; cases h'
  | _ => cases h
theorem over_len {α : Type} {xs ys : List α} {lo n : Nat} (h1 : lo + n ≤ xs.length) (h2 : n ≤ ys.length) : (over xs ys lo n).length = xs.length := by
  unfold over; simp only [List.length_append, List.length_take, List.length_drop]; omega
theorem copy_ok {c : Call} {x y : Operand} {t u : TypeId} {i : TI} (ho : o.op = .call c) (hc : c.callee = .builtin .copy) (ha : c.args.toList = [x, y]) (htt : c.argTypes.toList = [t, u]) (hi : TIok P t i) (hI : Inv g X m w)
    (hf : FrOK g w (okB X g m) fr a.tmps) (hb : Nat.beq i.kind 2 = true) {τ lo n : Nat} {xs ys : List i.ety.T} (hx : dstFor m i.ety (ev fr x) = some (τ, lo, n, xs)) (hy : elemsOf m i.ety (ev fr y) = some ys)
    (h : k (.d (.int .i64) (natI (lenMin i.ety ys n))) ((τ, .row i.ety (over xs ys lo (lenMin i.ety ys n))) :: m) g.n = some r) : OpR P X o a w g m k kp r := by
  obtain ⟨e, fi, ez, k1, k2, k3, k4, k5, k6, k7, k8⟩ := hi.slice (Nat.eq_of_beq_eq_true hb)
  have hxv := ev_ok hf x
  have hyv := ev_ok hf y
  obtain ⟨news, n1, n2⟩ := elemsOf_ok (P := P) hI hy hyv
  obtain ⟨hm, hrow⟩ := dstFor_ok hI hx hxv
  have ea : c.args = #[x, y] := by apply Array.toList_inj.1; simpa using ha
  have et : c.argTypes = #[t, u] := by apply Array.toList_inj.1; simpa using htt
  have fin : ∀ v w', (Builtin.copy_ #[t, u] o.type #[a.eval x, a.eval y]).run P w = .ok v w' → (execOp a.eval o).run P w = .ok (.value v) w' := by
    intro v w' hr
    unfold execOp
    simp [ho, resolve, hc, ea, et, invoke, builtin, hr]
  have hR := fun x cs h => Rd_len w (okB X g m) i.ety x cs h
  have hq : lenMin i.ety ys n ≤ ys.length := Nat.min_le_left _ _
  have hqn : lenMin i.ety ys n ≤ n := Nat.min_le_right _ _
  generalize hQ : lenMin i.ety ys n = q at *
  have hmin : Nat.min ys.length n = q := hQ
  have hfit := hrow.fit
  obtain ⟨ad, hcv, hval⟩ := hrow.val
  have hfst := n2.first w q rfl hq
  have hlen := n2.len w
  have hlv0 : (mget τ m).live = true := by rw [hm]; rfl
  rcases hval with ⟨p1, rfl, p3, rfl⟩ | ⟨p1, off, cc, ee, cells, rfl, p2, p3, p4, p5, p6, p7⟩
  · have hl0 := hrow.len
    simp at hfit
    have hq0 : q = 0 := by omega
    subst hq0
    have hov : over ([] : List i.ety.T) ys lo 0 = [] := by unfold over; simp
    rw [hov] at h
    have hB := hI.ok τ
    -- the row is nil: nothing is written
    have hxx : Ext g m w g ((τ, .row i.ety []) :: m) w := ⟨GExt.refl g, fun _ h => .inl h, Nat.le_refl _, fun _ _ _ => rfl, fun b ⟨σ, ⟨q1, q1'⟩, q2⟩ => by
      rw [mget_cons] at q1
      by_cases e : τ = σ
      · subst e; rw [p1] at q1'; cases q1'
      · rw [if_neg e] at q1; exact .inl ⟨σ, ⟨q1, q1'⟩, q2⟩, rfl, rfl, rfl⟩
    have hmg : ∀ σ, mget σ ((τ, .row i.ety []) :: m) = mget σ m := by
      intro σ
      rw [mget_cons]
      split
      · rename_i e; subst e; exact hm.symm
      · rfl
    have hI' : Inv g X ((τ, .row i.ety []) :: m) w := by
      have lv : ∀ σ, Lv g ((τ, .row i.ety []) :: m) σ ↔ Lv g m σ := fun σ => by unfold Lv; rw [hmg]
      refine hI.step hxx (fun σ => ?_) (fun σ σ' k1 k2 k3 => hI.inj σ σ' ((lv σ).1 k1) ((lv σ').1 k2) k3) (fun σ k1 => hI.far σ ((lv σ).1 k1)) (fun σ k1 => by rw [hmg]; exact hI.fresh σ k1) hI.dlt
      by_cases hd : g.dom σ
      · exact .inl ⟨hd, hmg σ, fun _ => rfl⟩
      · right; rw [hmg, hI.fresh σ hd]; trivial
    refine OpR.value (cv := .int .i64 (natI 0)) (fin _ _ ?_) h hI' (int_mk _ _) hxx
    simp only [Nat.zero_mul, List.take_zero] at hfst
    simp [Builtin.copy_, run_underlying k1, hcv, hlen, sizeOf, typeInfo, k2, k3, hmin, hfst, goInt, natI]
  · have hsz : fi.size = i.ety.size := k3
    have hl0 := hrow.len
    have hc0 := hrow.cap
    have hnews : (news.take (q * i.ety.size)).length = q * i.ety.size := by
      rw [List.length_take, n2.clen]
      have := Nat.mul_le_mul_right i.ety.size hq
      omega
    have hqm : q * i.ety.size ≤ ((g.loc τ).cap - lo) * i.ety.size := Nat.mul_le_mul_right _ (by omega)
    have hst := run_storeCells_at P (g.loc τ).blk off ee (news.take (q * i.ety.size)) 0 cc w p4 (by rw [hnews]; omega) (fun v hv => n2.one v (List.mem_of_mem_take hv))
    simp only [Nat.add_zero] at hst
    generalize hN : (cc.toList.take off ++ news.take (q * i.ety.size) ++ cc.toList.drop (off + (news.take (q * i.ety.size)).length)) = nc at hst
    rw [hnews] at hN
    have hncl : nc.length = cc.size := by
      rw [← hN]; simp only [List.length_append, List.length_take, List.length_drop, Array.length_toList] at hnews ⊢; omega
    have hlive : Lv g m τ := ⟨hlv0, p1⟩
    have hoth : ∀ b, b ≠ (g.loc τ).blk → (w.setRow (g.loc τ).blk nc.toArray).heap[b]? = w.heap[b]? := fun b hb => setRow_other w _ b _ hb
    have hh' := setRow_heap w (g.loc τ).blk cc nc.toArray ee _ p4
    have hs := setRow_size w (g.loc τ).blk nc.toArray
    have hx' := Ext.upd (B' := .row i.ety (over xs ys lo q)) hlive hs hoth rfl rfl rfl
    have hcells := RdL_len hR xs cells p5
    have hovl : (over xs ys lo q).length = xs.length := over_len (by omega) hq
    have hmul1 := Nat.mul_le_mul_right i.ety.size (show lo + q ≤ xs.length by omega)
    rw [Nat.add_mul] at hmul1
    refine OpR.value (cv := .int .i64 (natI q)) (fin _ _ ?_) h (hI.upd hlive hs hoth rfl rfl rfl ?_) (int_mk _ _) hx'
    · simp [Builtin.copy_, run_underlying k1, hcv, hlen, sizeOf, typeInfo, k2, k3, hmin, hfst, hst, goInt, natI]
    · have hrd : RdL (Rd w (okB X g m) i.ety) (over xs ys lo q) (cells.take (lo * i.ety.size) ++ news.take (q * i.ety.size) ++ cells.drop ((lo + q) * i.ety.size)) := by
        unfold over
        exact RdL_append _ _ _ _ (RdL_append _ _ _ _ (RdL_split hR xs cells p5 lo).1 (RdL_split hR ys news n1 q).1) (RdL_split hR xs cells p5 (lo + q)).2
      refine ⟨by rw [hovl]; exact hl0, hc0, .inr ⟨p1, nc.toArray, ee, _, hh', RdL_mono (fun x cs => Rd_mono hx'.holds _ x cs) _ _ hrd, fun j v hv => ?_, by simp only [List.size_toArray, hncl]; exact p7⟩⟩
      rw [List.getElem?_toArray, ← hN]
      by_cases hq0 : q = 0
      · subst hq0
        simp only [Nat.zero_mul, List.take_zero, List.append_nil, Nat.add_zero, List.take_append_drop] at hv ⊢
        have := p6 _ _ hv
        simpa using this
      · have hoff := p2 (by omega)
        have htk : (cells.take (lo * i.ety.size)).length = lo * i.ety.size := by rw [List.length_take, hcells]; omega
        have htk2 : (cc.toList.take off).length = off := by
          rw [List.length_take, Array.length_toList]; omega
        by_cases h1 : j < lo * i.ety.size
        · rw [List.append_assoc, List.getElem?_append_left (by omega), List.getElem?_take_of_lt h1] at hv
          rw [List.append_assoc, List.getElem?_append_left (by omega), List.getElem?_take_of_lt (by omega)]
          have := p6 _ _ hv
          simpa using this
        · by_cases h2 : j < lo * i.ety.size + q * i.ety.size
          · rw [List.append_assoc, List.getElem?_append_right (by omega), htk, List.getElem?_append_left (by omega)] at hv
            rw [List.append_assoc, List.getElem?_append_right (by omega), htk2, List.getElem?_append_left (by omega), ← hv]
            congr 1; omega
          · rw [List.getElem?_append_right (by rw [List.length_append]; omega), List.length_append, htk, hnews, List.getElem?_drop] at hv
            rw [List.getElem?_append_right (by rw [List.length_append]; omega), List.length_append, htk2, hnews, List.getElem?_drop]
            have := p6 _ _ hv
            rw [Nat.add_mul] at this
            rw [show off + q * i.ety.size + ((g.loc τ).base + j - (off + q * i.ety.size)) = (g.loc τ).base + (lo * i.ety.size + q * i.ety.size + (j - (lo * i.ety.size + q * i.ety.size))) by omega]
            simpa using this
theorem minmax_ok {c : Call} {x y : Operand} (ho : o.op = .call c) {b : Builtin} (hc : c.callee = .builtin b) (ha : c.args.toList = [x, y]) (hI : Inv g X m w) {kx ky : IntKind} {p q : Int}
    (hx : RV g w (okB X g m) (.d (.int kx) p) (a.eval x)) (hy : RV g w (okB X g m) (.d (.int ky) q) (a.eval y)) {n : Int} (hb : (b = .min ∧ n = min p q) ∨ (b = .max ∧ n = max p q)) (h : k (.d (.int kx) n) m g.n = some r) : OpR P X o a w g m k kp r := by
  have ea : c.args = #[x, y] := by apply Array.toList_inj.1; simpa using ha
  refine OpR.value (cv := .int kx n) ?_ h hI (int_mk _ _) (Ext.refl _ _ _)
  rcases hb with ⟨rfl, rfl⟩ | ⟨rfl, rfl⟩
  · have : (if q < p then q else p) = min p q := by split <;> omega
    unfold execOp
    simp [ho, resolve, hc, ea, invoke, builtin, Builtin.min_, Builtin.min2, int_get hx, int_get hy, this]
  · have : (if q > p then q else p) = max p q := by split <;> omega
    unfold execOp
    simp [ho, resolve, hc, ea, invoke, builtin, Builtin.max_, Builtin.max2, int_get hx, int_get hy, this]
end
end Go.Proofs.Ytkeolcgggondnaa.VX
