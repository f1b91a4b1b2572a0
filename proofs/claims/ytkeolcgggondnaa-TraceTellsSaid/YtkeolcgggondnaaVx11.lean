/- The engine, part 11: the abstract run of operations, regions and texts is true of the model. -/
import Derived.Test.YtkeolcgggondnaaVxM
import Derived.Laws.Cover3
set_option linter.unusedVariables false
set_option linter.unusedSimpArgs false
namespace Go.Proofs.Ytkeolcgggondnaa.VX
section
variable {P : Program} {C : Ctx} {X : Nat → Prop} {R : Type} {o : Oper} {a : Act} {w : World} {g : G} {m : Mem} {k kp : AV → Mem → Nat → Option R} {r : R} {fr : Fr}
theorem beqNs_eq : ∀ {l l' : List Nat}, beqNs l l' = true → l = l'
  | [], [], _ => rfl
  | a :: l, b :: l', h => by
    rw [show beqNs (a :: l) (b :: l') = (Nat.beq a b && beqNs l l') from rfl, Bool.and_eq_true] at h
    rw [Nat.eq_of_beq_eq_true h.1, beqNs_eq h.2]
  | [], _ :: _, h => by cases h
  | _ :: _, [], h => by cases h
theorem aop_ok (hC : CtxOK P C) (hI : Inv g X m w) (hrt : g.rt = rtOf P) (hf : FrOK g w (okB X g m) fr a.tmps) (h : aop C o.op o.type fr m g.n k kp = some r) : OpR P X o a w g m k kp r := by
  generalize hop : o.op = op at h
  unfold aop at h
  split at h
  · exact move_ok (.inl hop) hI hf h
  · exact move_ok (.inr hop) hI hf h
  · split at h
    · rename_i hc; exact pick_ok hop hI hf hc h
    · cases h
  · split at h
    · rename_i i hi; exact alloc_ok hop (hC.tb _ _ hi) hI h
    · cases h
  · obtain ⟨h1, h2⟩ := bif_some h; exact box_ok hop hI hf h1 h2
  · split at h
    · rename_i i hi
      obtain ⟨h1, h⟩ := bif_some h
      rw [Bool.and_eq_true] at h1
      split at h
      · rename_i v hv
        obtain ⟨h2, h⟩ := bif_some h
        exact build_ok hop (hC.tb _ _ hi) hI hf (by simpa using h1.1) h1.2 hv h2 h
      · cases h
    · cases h
  · split at h
    · rename_i i hi
      split at h
      · rename_i xs hx
        obtain ⟨h1, h⟩ := bif_some h
        exact buildSlice_ok hop (hC.tb _ _ hi) hI hf hx h1 h
      · cases h
    · cases h
  · split at h
    · rename_i i hi; exact load_ok hop (hC.tb _ _ hi) hI hf h
    · cases h
  · split at h
    · rename_i i hi
      obtain ⟨h1, h⟩ := bif_some h
      exact storeA_ok hop (hC.tb _ _ hi) hI hf (Nat.eq_of_beq_eq_true h1) h
    · cases h
  · rename_i op' t x y t'
    have hx := ev_ok hf x
    have hy := ev_ok hf y
    generalize ev fr x = u at *
    generalize ev fr y = v at *
    split at h
    · exact intBin_ok hop hI hx hy h
    · exact strBin_ok hop hI hx hy h
    · split at h
      · rename_i i hi
        obtain ⟨h1, h⟩ := bif_some h
        rw [Bool.and_eq_true] at h1
        split at h
        · rename_i p q hp hq
          exact eqBin_ok (hC.tb _ _ hi) hop hI hx hy h1.1 h1.2 hp hq h
        · cases h
      · cases h
  · rename_i t x
    have hx := ev_ok hf x
    split at h
    · rename_i b hb; rw [hb] at hx; exact not_ok hop hI hx h
    · cases h
  · split at h
    · rename_i i hi; exact fieldAddr_ok hop (hC.tb _ _ hi) hI hf h
    · cases h
  · split at h
    · rename_i i hi; exact field_ok hop (hC.tb _ _ hi) hI hf h
    · cases h
  · split at h
    · rename_i i hi; exact indexAddr_ok hop (hC.tb _ _ hi) hI hf h
    · cases h
  · split at h
    · rename_i i hi; exact index_ok hop (hC.tb _ _ hi) hI hf h
    · cases h
  · rename_i t i
    have hx := ev_ok hf t
    split at h
    · rename_i vs hv; rw [hv] at hx
      obtain ⟨h1, h⟩ := bif_some h
      exact extract_ok hop hI hx h1 h
    · cases h
  · exact makeFunc_ok hop hI hf h
  · split at h
    · rename_i i hi; exact slice_ok hop (hC.tb _ _ hi) hI hf h
    · cases h
  · rename_i t x y
    have hx := ev_ok hf x
    have hy := ev_ok hf y
    split at h
    · rename_i i k1 n k2 c hi hn hc
      rw [hn] at hx
      rw [hc] at hy
      exact makeSlice_ok hop (hC.tb _ _ hi) hI hx hy h
    · cases h
  · rename_i s t x
    have hx := ev_ok hf x
    split at h
    · rename_i i i2 kk n hi hi2 hn
      rw [hn] at hx
      split at h
      · rename_i kd hty
        obtain ⟨h1, h⟩ := bif_some h
        obtain ⟨d, hd, _⟩ := (hC.tb _ _ hi2).desc
        exact convert_ok hop (hC.tb _ _ hi) ⟨d, hd⟩ hI hx hty (Nat.eq_of_beq_eq_true h1) h
      · cases h
    · cases h
  · exact nilCheck_ok hop hI hf h
  · split at h
    · rename_i i hi; exact makeIface_ok hop (hC.tb _ _ hi) hI hf h
    · cases h
  · split at h
    · rename_i i hi; exact typeAssert_ok hop (hC.tb _ _ hi) hI hf h
    · cases h
  · exact panic_ok hop hI hf h
  · split at h
    · rename_i i hi; exact makeMap_ok hop (hC.tb _ _ hi) hI hf h
    · cases h
  · split at h
    · rename_i i hi; exact lookup_ok hop (hC.tb _ _ hi) hI hf h
    · cases h
  · split at h
    · rename_i i hi; exact mapUpdate_ok (.inl hop) (hC.tb _ _ hi) hI hf h
    · cases h
  · split at h
    · rename_i i hi; exact mapUpdate_ok (.inr hop) (hC.tb _ _ hi) hI hf h
    · cases h
  · split at h
    · rename_i i hi; exact mapEntry_ok hop (hC.tb _ _ hi) hI hf h
    · cases h
  · split at h
    · rename_i i hi; exact entryStore_ok hop (hC.tb _ _ hi) hI hf h
    · cases h
  · rename_i c
    split at h
    · rename_i hc
      split at h
      · rename_i x t hx ht
        split at h
        · rename_i i hi
          obtain ⟨h1, h2⟩ := bif_some h
          split at h2
          · rename_i τ lo n xs hd
            exact clear_ok hop hc hx ht (hC.tb _ _ hi) hI hf h1 hd h2
          · cases h2
        · cases h
      · cases h
    · rename_i hc
      split at h
      · rename_i x y t u hx ht
        split at h
        · rename_i i j hi hj
          obtain ⟨h1, h2⟩ := bif_some h
          split at h2
          · rename_i τ xs ys hq hy
            exact append_ok hop hc hx ht (hC.tb _ _ hi) (hC.tb _ _ hj) hI hf h1 hq hy (fun σ e => by cases e; exact h2) (fun e => by cases e)
          · rename_i xs ys hq hy
            exact append_ok hop hc hx ht (hC.tb _ _ hi) (hC.tb _ _ hj) hI hf h1 hq hy (fun σ e => by cases e) (fun _ => h2)
          · cases h2
        · cases h
      · cases h
    · rename_i hc
      split at h
      · rename_i x y t u hx ht
        split at h
        · rename_i i hi
          obtain ⟨h1, h2⟩ := bif_some h
          split at h2
          · rename_i τ lo n xs ys hq hy
            exact copy_ok hop hc hx ht (hC.tb _ _ hi) hI hf h1 hq hy h2
          · cases h2
        · cases h
      · cases h
    · rename_i hc
      split at h
      · rename_i x y hx
        have hxv := ev_ok hf x
        have hyv := ev_ok hf y
        split at h
        · rename_i kx p ky q e1 e2
          rw [e1] at hxv
          rw [e2] at hyv
          exact minmax_ok hop hc hx hI hxv hyv (.inl ⟨rfl, rfl⟩) h
        · cases h
      · cases h
    · rename_i hc
      split at h
      · rename_i x y hx
        have hxv := ev_ok hf x
        have hyv := ev_ok hf y
        split at h
        · rename_i kx p ky q e1 e2
          rw [e1] at hxv
          rw [e2] at hyv
          exact minmax_ok hop hc hx hI hxv hyv (.inr ⟨rfl, rfl⟩) h
        · cases h
      · cases h
    · rename_i hc
      split at h
      · rename_i x t hx ht
        split at h
        · rename_i i hi
          split at h
          · rename_i n hn; exact len_ok hop hc hx ht (hC.tb _ _ hi) hI hf hn h
          · cases h
        · cases h
      · cases h
    · rename_i f hc
      split at h
      · rename_i gf first cap hv
        split at h
        · rename_i l1 l2 h1 h2
          simp only at h
          split at h
          · rename_i s hs; exact call_ok hop hc hv h1 h2 (hC.fx _ _ _ hs) hI hrt hf h
          · rw [hC.miss] at h; cases h
        · cases h
      · rename_i τ hv
        split at h
        · rename_i id slots sv tag hm
          split at h
          · rename_i sl s l hs hl
            obtain ⟨h1, h9⟩ := bif_some h
            clear h
            rw [Bool.and_eq_true] at h1
            have ht : tag = 0 := by simpa using h1.1
            subst ht
            have he := beqNs_eq h1.2
            subst he
            exact yield_ok hop hc hv hm (hC.ys _ _ _ hs) hl hI hrt hf h9
          · cases h
        · cases h
      · cases h
    · cases h
  · cases h
theorem amb_some {x y : Option R} {r : R} (h : amb x y = some r) : x = some r ∧ y = some r := by
  unfold amb at h
  split at h
  · rename_i e; exact ⟨h, e ▸ h⟩
  · cases h
theorem eqNilA_ok (hI : Inv g X m w) {q : Bool → Option R} {v : AV} {cv : Value} (hv : RV g w (okB X g m) v cv) (h : eqNilA m q v = some r) : ∃ ad len cap, cv = .slice ad len cap ∧ q ad.isNone = some r := by
  have dat : ∀ (t : Ty) (xs : List t.T), RV g w (okB X g m) (.d (.slice t) xs) cv → (bif Nat.beq (lenL t xs) 0 then amb (q true) (q false) else q false) = some r → ∃ ad len cap, cv = .slice ad len cap ∧ q ad.isNone = some r := by
    intro t xs hx hh
    obtain ⟨ad, cap, e1, _, e3⟩ := hx.2 rfl
    refine ⟨ad, _, cap, (List.cons.inj e1).1, ?_⟩
    cases hb : Nat.beq (lenL t xs) 0 with
    | true =>
      rw [hb] at hh
      obtain ⟨h1, h2⟩ := amb_some hh
      cases ad with
      | none => exact h1
      | some b => exact h2
    | false =>
      rw [hb] at hh
      rcases e3 with e3 | ⟨b, cells, rfl, _⟩
      · rw [e3] at hb; cases hb
      · exact hh
  cases v with
  | nl => exact ⟨none, 0, 0, (List.cons.inj (hv.2 rfl)).1, h⟩
  | d t xs =>
    cases t with
    | slice t => exact dat t xs hv h
    | _ => cases h
  | sl τ =>
    simp only [eqNilA] at h
    cases hm : mget τ m with
    | row t xs =>
      rw [hm] at h
      simp only at h
      have hr := rowAt_sl hI hm hv
      obtain ⟨ad, e1, e2⟩ := hr.val
      refine ⟨ad, _, _, e1, ?_⟩
      cases hb : Nat.beq (lenL t xs) 0 with
      | true =>
        rw [hb] at h
        obtain ⟨h1, h2⟩ := amb_some h
        cases ad with
        | none => exact h1
        | some b => exact h2
      | false =>
        rw [hb] at h
        rcases e2 with ⟨_, _, _, e3⟩ | ⟨_, off, c, e, cells, rfl, _⟩
        · rw [e3] at hb; cases hb
        · exact h
    | frz t xs => rw [hm] at h; exact dat t xs (frz_rv hI hm hv) h
    | _ => rw [hm] at h; cases h
  | _ => cases h
theorem aopX_ok (hC : CtxOK P C) (hI : Inv g X m w) (hrt : g.rt = rtOf P) (hf : FrOK g w (okB X g m) fr a.tmps) (h : aopX C o.op o.type fr m g.n k kp = some r) : OpR P X o a w g m k kp r := by
  have nil : ∀ {y : Operand}, isNilC y = true → a.eval y = .slice none 0 0 := by
    intro y hy
    unfold isNilC at hy
    split at hy
    · rfl
    · cases hy
  unfold aopX at h
  split at h
  · rename_i t x y u hop
    cases hb : isNilC y with
    | false => rw [hb] at h; exact aop_ok hC hI hrt hf (by rw [hop]; exact h)
    | true =>
      rw [hb] at h
      simp only [cond_true] at h
      split at h
      · rename_i i hi
        obtain ⟨h1, h2⟩ := bif_some h
        obtain ⟨ad, len, cap, e1, e2⟩ := eqNilA_ok hI (ev_ok hf x) h2
        obtain ⟨e, fi, ez, k1, _⟩ := (hC.tb _ _ hi).slice (Nat.eq_of_beq_eq_true h1)
        refine OpR.value (cv := .bool ad.isNone) ?_ e2 hI (bool_mk _) (Ext.refl _ _ _)
        have hg : (eqGuard .eql t x y (.slice ad len cap) (.slice none 0 0)).run P w = .ok () w := by
          unfold eqGuard; simp
        have heq := run_equal_slice_nil (P := P) w t e ad len cap k1
        unfold execOp
        simp [hop, hg, e1, nil hb, binOp, heq]
      · cases h
  · rename_i t x y u hop
    cases hb : isNilC y with
    | false => rw [hb] at h; exact aop_ok hC hI hrt hf (by rw [hop]; exact h)
    | true =>
      rw [hb] at h
      simp only [cond_true] at h
      split at h
      · rename_i i hi
        obtain ⟨h1, h2⟩ := bif_some h
        obtain ⟨ad, len, cap, e1, e2⟩ := eqNilA_ok hI (ev_ok hf x) h2
        obtain ⟨e, fi, ez, k1, _⟩ := (hC.tb _ _ hi).slice (Nat.eq_of_beq_eq_true h1)
        refine OpR.value (cv := .bool (!ad.isNone)) ?_ e2 hI (bool_mk _) (Ext.refl _ _ _)
        have hg : (eqGuard .neq t x y (.slice ad len cap) (.slice none 0 0)).run P w = .ok () w := by
          unfold eqGuard; simp
        have heq := run_equal_slice_nil (P := P) w t e ad len cap k1
        unfold execOp
        simp [hop, hg, e1, nil hb, binOp, heq]
      · cases h
  · exact aop_ok hC hI hrt hf h
/-- How an end of the abstract run stands to one of the model's. -/
def ExR (g : G) (w : World) (ok : Nat → Prop) : Ex → Exit → Prop
  | .normal, e => e = .normal
  | .exit i, e => e = .exit i
  | .goto l, e => e = .goto l
  | .ret, e => e = .ret
  | .panic v, e => ∃ cv, e = .panic [{ v := cv, recovered := false }] ∧ RV g w ok v cv
/-- What a piece of text asks of the activation: how many slots, how many numbers keep their place, whether it is in no round. -/
structure EK where
  nt : Nat
  pin : Nat
  nr : Bool
def Ctx.ek (C : Ctx) : EK := ⟨C.nt, C.pin, C.nr⟩
structure EnvOK (P : Program) (ek : EK) (E : Env) : Prop where
  nt : E.nt = ek.nt
  pin : E.pin = ek.pin
  rd : ek.nr = true → E.rd = none
  rt : E.rt = rtOf P
def PostK (X : Nat → Prop) (E : Env) (g : G) (m : Mem) (w : World) (k : Ex → Fr → Mem → Nat → Option R) (r : R) (e : Exit) (a' : Act) (w' : World) : Prop :=
  ∃ e' fr' m' g', ExR g' w' (okB X g' m') e' e ∧ k e' fr' m' g'.n = some r ∧ StOK g' X E fr' m' a' w' ∧ Ext0 E.pin g m w g' m' w'
theorem PostK.trans {E : Env} {k : Ex → Fr → Mem → Nat → Option R} {g1 : G} {m1 : Mem} {w1 : World} (hx : Ext0 E.pin g m w g1 m1 w1) {e : Exit} {a' : Act} {w' : World} (h : PostK X E g1 m1 w1 k r e a' w') : PostK X E g m w k r e a' w' := by
  obtain ⟨e', fr', m', g', h1, h2, h3, h4⟩ := h
  exact ⟨e', fr', m', g', h1, h2, h3, hx.trans h4⟩
theorem put_size (a : Act) (d : Option Tmp) (v : Value) : (a.put d v).tmps.size = a.tmps.size := by cases d <;> simp [Act.put]
theorem put_defers (a : Act) (d : Option Tmp) (v : Value) : (a.put d v).defers = a.defers := by cases d <;> rfl
theorem range_drop (n j : Nat) (h : j < n) : (List.range n).drop j = j :: (List.range n).drop (j + 1) := by
  rw [List.drop_eq_getElem_cons (by simpa using h)]; simp
theorem aops_ok (hC : CtxOK P C) {E : Env} (hE : EnvOK P C.ek E) (all : Array Oper) {k : Fr → Mem → Nat → Option R} {kx : Ex → Fr → Mem → Nat → Option R} (Q : Exit → Act → World → Prop) : ∀ (l : List Oper) (j : Nat), l = all.toList.drop j → j + l.length = all.size →
    ∀ (fr : Fr) (m : Mem) (g : G) (a : Act) (w : World), aops C all l fr m g.n k kx = some r → StOK g X E fr m a w →
    (∀ fr' m' g' a' w', k fr' m' g'.n = some r → StOK g' X E fr' m' a' w' → Ext g m w g' m' w' → Q .normal a' w') →
    (∀ v fr' m' g' a' w' cv, kx (.panic v) fr' m' g'.n = some r → StOK g' X E fr' m' a' w' → RV g' w' (okB X g' m') v cv → Ext g m w g' m' w' → Q (.panic [{ v := cv, recovered := false }]) a' w') →
    wpOpsIn (FR E.rd) 0 P all Q ((List.range all.size).drop j) a w
  | [], j, hl, hj, fr, m, g, a, w, h, hst, hk, hp => by
    rw [List.drop_of_length_le (by simp at hj ⊢; omega)]
    exact hk fr m g a w h hst (Ext.refl _ _ _)
  | o :: l, j, hl, hj, fr, m, g, a, w, h, hst, hk, hp => by
    simp only [List.length_cons] at hj
    rw [range_drop _ _ (by omega)]
    have hlt : j < all.toList.length := by simp; omega
    have hoj : all[j]? = some o := by
      have h1 : all.toList[j]? = some o := by
        have := congrArg (fun x => x[0]?) hl
        simp at this
        simpa using this.symm
      simpa using h1
    have hl2 : l = all.toList.drop (j + 1) := by
      have := congrArg List.tail hl
      simpa using this
    have next : ∀ (v : AV) (cv : Value) (m' : Mem) (g' : G) (w' : World) (frx : Fr), (match o.dst with
          | some d => bif Nat.blt d C.nt then aops C all l ((d, v) :: frx) m' g'.n k kx else none
          | none => aops C all l frx m' g'.n k kx) = some r → FrOK g w (okB X g m) frx a.tmps → Inv g' X m' w' → RV g' w' (okB X g' m') v cv → Ext g m w g' m' w' → wpOpsIn (FR E.rd) 0 P all Q ((List.range all.size).drop (j + 1)) (a.put o.dst cv) w' := by
      intro v cv m' g' w' frx hh hfx hI' hv' hx'
      have hfr' : FrOK g' w' (okB X g' m') frx a.tmps := FrOK.mono hx'.gx hx'.holds hfx
      cases hd : o.dst with
      | none =>
        rw [hd] at hh
        refine aops_ok hC hE all Q l (j + 1) hl2 (by omega) frx m' g' _ w' hh ⟨hI', by simpa [Act.put] using hfr', by rw [put_size]; exact hst.size, by rw [put_defers]; exact hst.defers.mono hx'.stays, hx'.gx.1.2.trans hst.rt, Nat.le_trans hst.b0 hx'.size⟩ ?_ ?_
        · intro fr2 m2 g2 a2 w2 q1 q2 q3; exact hk fr2 m2 g2 a2 w2 q1 q2 (hx'.trans q3)
        · intro v2 fr2 m2 g2 a2 w2 cv2 q1 q2 q3 q4; exact hp v2 fr2 m2 g2 a2 w2 cv2 q1 q2 q3 (hx'.trans q4)
      | some d =>
        rw [hd] at hh
        obtain ⟨hd1, hh⟩ := bif_some hh
        have hdn : d < a.tmps.size := by rw [hst.size, show E.nt = C.nt from hE.nt]; simpa using hd1
        refine aops_ok hC hE all Q l (j + 1) hl2 (by omega) ((d, v) :: frx) m' g' _ w' hh ⟨hI', ?_, by rw [put_size]; exact hst.size, by rw [put_defers]; exact hst.defers.mono hx'.stays, hx'.gx.1.2.trans hst.rt, Nat.le_trans hst.b0 hx'.size⟩ ?_ ?_
        · exact hfr'.set hdn hv'
        · intro fr2 m2 g2 a2 w2 q1 q2 q3; exact hk fr2 m2 g2 a2 w2 q1 q2 (hx'.trans q3)
        · intro v2 fr2 m2 g2 a2 w2 cv2 q1 q2 q3 q4; exact hp v2 fr2 m2 g2 a2 w2 cv2 q1 q2 q3 (hx'.trans q4)
    have run : ∀ frx, FrOK g w (okB X g m) frx a.tmps → aopX C o.op o.type frx m g.n (fun v m N => v.force fun v =>
        match o.dst with
        | some d => bif Nat.blt d C.nt then aops C all l ((d, v) :: frx) m N k kx else none
        | none => aops C all l frx m N k kx) (fun v m N => kx (.panic v) frx m N) = some r → o.wpIn (FR E.rd) 0 P a w (wpOpsIn (FR E.rd) 0 P all Q ((List.range all.size).drop (j + 1))) Q := by
      intro frx hfx hh
      refine aopX_ok hC hst.inv (hst.rt.trans hE.rt) hfx hh E.rd _ Q ?_ ?_
      · intro v m' g' cv w' q1 q2 q3 q4
        exact next v cv m' g' w' frx (force_some q1) hfx q2 q3 q4
      · intro v m' g' cv w' q1 q2 q3 q4
        exact hp v frx m' g' a w' cv q1 ⟨q2, FrOK.mono q4.gx q4.holds hfx, hst.size, hst.defers.mono q4.stays, q4.gx.1.2.trans hst.rt, Nat.le_trans hst.b0 q4.size⟩ q3 q4
    have skp : ∀ frx, FrOK g w (okB X g m) frx a.tmps → (match o.dst with
          | some d => bif Nat.blt d C.nt then aops C all l ((d, .tu .nil) :: frx) m g.n k kx else none
          | none => aops C all l frx m g.n k kx) = some r → wpOpsIn (FR E.rd) 0 P all Q ((List.range all.size).drop (j + 1)) (a.put o.dst undef) w := by
      intro frx hfx hh
      exact next (.tu .nil) undef m g w frx hh hfx hst.inv ⟨fun h => (by cases h), fun _ => ⟨[], rfl, rfl⟩⟩ (Ext.refl _ _ _)
    simp only [aops] at h
    simp only [wpOpsIn, hoj]
    cases hgd : o.guard with
    | none =>
      rw [hgd] at h
      have hwant : Region.wanted o (yielded all a.tmps) = true := by simp [Region.wanted, hgd]
      rw [if_pos hwant]
      exact (run fr hst.fr h)
    | some jw =>
      obtain ⟨j', want⟩ := jw
      rw [hgd] at h
      simp only at h
      cases hgs : guardSlot all j' with
      | none => rw [hgs] at h; cases h
      | some gs =>
        rw [hgs] at h
        simp only at h
        obtain ⟨hlt', h⟩ := bif_some h
        have hgn : gs < a.tmps.size := by rw [hst.size, show E.nt = C.nt from hE.nt]; simpa using hlt'
        have hgv := hst.fr gs
        have hy : yielded all a.tmps j' = (match a.tmps.getD gs undef with | .bool b => some b | _ => none) := by
          unfold guardSlot at hgs
          simp only [yielded, hgs, Option.bind_some]
          rw [Array.getElem?_eq_getElem hgn]
          have hgd2 : a.tmps.getD gs undef = a.tmps[gs] := by simp [Array.getD, hgn]
          rw [hgd2]
          generalize a.tmps[gs] = u
          cases u <;> rfl
        cases hq : fget gs fr with
        | d ty b =>
          cases ty with
          | bool =>
            rw [hq] at h hgv
            have hb := bool_get hgv
            rw [hb] at hy
            have hset : FrOK g w (okB X g m) ((gs, .d .bool b) :: fr) a.tmps := by
              intro t
              rw [fget_cons]
              split
              · rename_i e; subst e; rw [hb]; exact bool_mk b
              · exact hst.fr t
            cases b with
            | true =>
              simp only [cond_true] at h
              cases want with
              | true => rw [if_pos (by simp [Region.wanted, hgd, hy])]; exact (run _ hset h)
              | false => rw [if_neg (by simp [Region.wanted, hgd, hy])]; exact ⟨fun _ _ => trivial, skp _ hset h⟩
            | false =>
              simp only [cond_false] at h
              cases want with
              | true => rw [if_neg (by simp [Region.wanted, hgd, hy])]; exact ⟨fun _ _ => trivial, skp _ hset h⟩
              | false => rw [if_pos (by simp [Region.wanted, hgd, hy])]; exact (run _ hset h)
          | _ => rw [hq] at h; cases h
        | tu vs =>
          cases vs with
          | nil =>
            rw [hq] at h hgv
            obtain ⟨l', h1, h2⟩ := hgv.2 rfl
            cases h1
            have hu : a.tmps.getD gs undef = .tuple #[] := (List.cons.inj h2).1
            rw [hu] at hy
            rw [if_neg (by simp [Region.wanted, hgd, hy])]
            exact ⟨fun _ _ => trivial, skp _ hst.fr h⟩
          | _ => rw [hq] at h; cases h
        | _ => rw [hq] at h; cases h
end
end Go.Proofs.Ytkeolcgggondnaa.VX
