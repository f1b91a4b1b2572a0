/- Plain laws of trace: the judge. -/
import Derived.Test.YtkeolcgggondnaaVxFT
import Derived.Test.YtkeolcgggondnaaVpTrA
set_option linter.unusedVariables false
set_option linter.unusedSimpArgs false
namespace Go.Proofs.Ytkeolcgggondnaa.VX.VxF_T
open Go.Proofs
abbrev St := List Int × List Int × Int × List ((Int × Int) × Int) × List (Int × Int) × List (Int × Int)
def orgM : List (Int × Int) := [(3, 2), (5, 4), (6, 4), (9, 8), (11, 10), (15, 13)]
def lookC (k o : Int) (l : List ((Int × Int) × Int)) : Int := mlook (Ty.beq (.pair (.int .i64) (.int .i64))) (Ty.zero (.int .i64)) (k, o) l
def lookF (o : Int) (l : List (Int × Int)) : Int := mlook (Ty.beq (.int .i64)) (Ty.zero (.int .i64)) o l
/-- What the judge knows behind some events. -/
structure JOK (caps : List Int) (l : List Ev) (s : St) : Prop where
  caps : s.1 = caps
  len : s.2.1.length = 8
  last : ∀ g : Nat, g < 8 → s.2.1.getD g 0 = (lastE (g : Int) l 0 : Int)
  begun : s.2.2.1 = (cntK l 0 : Int)
  count : ∀ k o, lookC k o s.2.2.2.1 = (cntE l k o : Int)
  first : ∀ o, lookF o s.2.2.2.2.1 = firstE o l
  orig : s.2.2.2.2.2 = orgM
theorem origins_eq : F_trace_origins () = some orgM := rfl
theorem in_eq (n lo hi : Int) : F_trace_in (n, lo, hi) = some (decide (lo ≤ n ∧ n ≤ hi)) := by
  unfold F_trace_in
  simp only
  by_cases h : n ≥ lo
  · rw [bif_t (decide_eq_true h)]
    by_cases h2 : n ≤ hi
    · rw [decide_eq_true h2, decide_eq_true (by omega)]
    · rw [decide_eq_false h2, decide_eq_false (by omega)]
  · rw [bif_f (decide_eq_false h), decide_eq_false (by omega)]
theorem n_eq (k : Int) (e : Ev) (s : St) : F_trace_judge_n (k, e, s) = some (lookC k e.2.2.1 s.2.2.2.1, s) := rfl
end Go.Proofs.Ytkeolcgggondnaa.VX.VxF_T
namespace Go.Proofs.Ytkeolcgggondnaa.VX.VxF_T
open Go.Proofs
theorem capO_eq (caps : List Int) (o : Int) (h : 0 ≤ o) : getAt (0 : Int) caps (toN o) = capO caps o := by
  unfold capO; rw [getAt_eq]; rfl
theorem open_eq (e : Ev) (s : St) (h0 : 0 ≤ e.2.2.1) (h1 : e.2.2.1 < s.1.length) : F_trace_judge_open (e, s) = some (decide (0 ≤ capO s.1 e.2.2.1), s) := by
  unfold F_trace_judge_open
  simp only
  rw [bif_t (inbL.2 ⟨h0, h1⟩), capO_eq _ _ h0]
theorem objs_eq (k : Int) (s : St) : F_trace_judge_objs (k, s) = some (objK s.1 k, s) := by
  unfold F_trace_judge_objs objK
  simp only [in_eq, Option.bind_some]
  by_cases h : 2 ≤ k ∧ k ≤ 7
  · rw [decide_eq_true h, if_pos h]; rfl
  · rw [decide_eq_false h, if_neg h]
    by_cases h2 : 10 ≤ k ∧ k ≤ 15
    · rw [decide_eq_true h2, if_pos h2]; rfl
    · rw [decide_eq_false h2, if_neg h2]
      by_cases h3 : 8 ≤ k ∧ k ≤ 17
      · rw [decide_eq_true h3, if_pos h3]; rfl
      · rw [decide_eq_false h3, if_neg h3]; rfl
end Go.Proofs.Ytkeolcgggondnaa.VX.VxF_T
namespace Go.Proofs.Ytkeolcgggondnaa.VX.VxF_T
open Go.Proofs
theorem getE_at (l : List Ev) (s : Int) : getAt ((0 : Int), ((0 : Int), ((0 : Int), ((0 : Int), (0 : Int))))) l (toN s) = getE l s := by
  rw [getAt_eq]; rfl
theorem last_at {caps : List Int} {l : List Ev} {s : St} (hJ : JOK caps l s) {g : Int} (h0 : 0 ≤ g) (h1 : g ≤ 7) : getAt (0 : Int) s.2.1 (toN g) = (lastE g l 0 : Int) := by
  rw [getAt_eq]
  have := hJ.last g.toNat (by omega)
  rw [show ((g.toNat : Nat) : Int) = g by omega] at this
  exact this
theorem begins_eq {caps : List Int} {l : List Ev} {s : St} (hJ : JOK caps l s) (e : Ev) (hs : shapeE l e) : F_trace_judge_begins (l, e, s) = some (tB (startE l e), s) := by
  obtain ⟨g0, g1, k0, k1, n0, s0, s1⟩ := hs
  unfold F_trace_judge_begins
  simp only
  rw [bif_t (inbL.2 ⟨g0, by omega⟩), last_at hJ g0 g1]
  simp only [getE_at]
  by_cases a : lastE e.1 l 0 = 0
  · rw [bif_f (decide_eq_false (by omega))]
    by_cases b : e.2.2.1 = 0
    · rw [bif_f (by simpa using b)]
      by_cases c : e.2.2.2.1 = 0
      · rw [bif_f (by simpa using c)]
        by_cases d : e.1 = 0
        · rw [bif_t (by simpa using d)]
          by_cases f : e.2.2.2.2 = -1
          · rw [tB_t ⟨a, b, c, by rw [if_pos d]; exact f⟩, f]; rfl
          · rw [tB_f (fun h => f (by have := h.2.2.2; rw [if_pos d] at this; exact this))]
            have : (e.2.2.2.2 == (-1 : Int)) = false := by simpa using f
            show some (e.2.2.2.2 == (-1 : Int), s) = _
            rw [this]
        · rw [bif_f (by simpa using d)]
          by_cases f : e.2.2.2.2 = -1
          · rw [bif_f (by rw [f]; rfl), tB_f (fun h => by have := h.2.2.2; rw [if_neg d] at this; omega)]
          · rw [bif_t (by simpa using f), bif_t (inbL.2 ⟨by omega, by omega⟩)]
            by_cases g : (getE l e.2.2.2.2).2.1 = 1
            · rw [bif_t (by simpa using g), bif_t (inbL.2 ⟨by omega, by omega⟩)]
              by_cases h : (getE l e.2.2.2.2).2.2.1 = e.1
              · rw [tB_t ⟨a, b, c, by rw [if_neg d]; exact ⟨by omega, g, h⟩⟩, h]; simp
              · rw [tB_f (fun q => h (by have := q.2.2.2; rw [if_neg d] at this; exact this.2.2)), beq_eq_false_iff_ne.2 h]
            · rw [bif_f (by simpa using g), tB_f (fun q => g (by have := q.2.2.2; rw [if_neg d] at this; exact this.2.1))]
      · rw [bif_t (by simpa using c), tB_f (fun h => c h.2.2.1)]
    · rw [bif_t (by simpa using b), tB_f (fun h => b h.2.1)]
  · rw [bif_t (decide_eq_true (by omega)), tB_f (fun h => a h.1)]
end Go.Proofs.Ytkeolcgggondnaa.VX.VxF_T
namespace Go.Proofs.Ytkeolcgggondnaa.VX.VxF_T
open Go.Proofs
theorem org_has (k : Int) : @mhas Int Int (Ty.beq (.int .i64)) k orgM = tB (k = 3 ∨ k = 5 ∨ k = 6 ∨ k = 9 ∨ k = 11 ∨ k = 15) := by
  have hb : ∀ a b : Int, Ty.beq (.int .i64) a b = (a == b) := fun _ _ => rfl
  by_cases h : k = 3 ∨ k = 5 ∨ k = 6 ∨ k = 9 ∨ k = 11 ∨ k = 15
  · rw [tB_t h]
    rcases h with rfl | rfl | rfl | rfl | rfl | rfl <;> rfl
  · rw [tB_f h]
    simp only [not_or] at h
    unfold orgM
    simp only [mhas, hb, beq_eq_false_iff_ne.2 h.1, beq_eq_false_iff_ne.2 h.2.1, beq_eq_false_iff_ne.2 h.2.2.1, beq_eq_false_iff_ne.2 h.2.2.2.1, beq_eq_false_iff_ne.2 h.2.2.2.2.1, beq_eq_false_iff_ne.2 h.2.2.2.2.2, cond_false]
theorem org_look (k : Int) (h : k = 3 ∨ k = 5 ∨ k = 6 ∨ k = 9 ∨ k = 11 ∨ k = 15) : @mlook Int Int (Ty.beq (.int .i64)) (Ty.zero (.int .i64)) k orgM = orgK k := by
  rcases h with rfl | rfl | rfl | rfl | rfl | rfl <;> rfl
end Go.Proofs.Ytkeolcgggondnaa.VX.VxF_T
namespace Go.Proofs.Ytkeolcgggondnaa.VX.VxF_T
open Go.Proofs
theorem began_eq {caps : List Int} {l : List Ev} {s : St} (hJ : JOK caps l s) (e : Ev) (hs : shapeE l e) (hl : l.length < 1000) (hk : e.2.1 ≠ 0) : F_trace_judge_began (l, e, s) = some (tB (fromE l e), s) := by
  obtain ⟨g0, g1, k0, k1, n0, s0, s1⟩ := hs
  have hbg : begK e.2.1 ↔ (e.2.1 = 3 ∨ e.2.1 = 5 ∨ e.2.1 = 6 ∨ e.2.1 = 9 ∨ e.2.1 = 11 ∨ e.2.1 = 15) := by unfold begK; omega
  have hle := lastE_le e.1 l 0
  unfold F_trace_judge_began
  simp only
  rw [hJ.orig, org_has, last_at hJ g0 g1]
  simp only [getE_at]
  by_cases b : e.2.1 = 3 ∨ e.2.1 = 5 ∨ e.2.1 = 6 ∨ e.2.1 = 9 ∨ e.2.1 = 11 ∨ e.2.1 = 15
  · have hfe : ∀ p : Prop, (fromE l e ↔ p) → tB (fromE l e) = tB p := fun p h => by rw [propext h]
    rw [tB_t b, bif_f (by rfl), org_look _ b]
    have hF : fromE l e ↔ (0 ≤ e.2.2.2.2 ∧ e.2.2.2.2 + 1 = lastE e.1 l 0 ∧ ((getE l e.2.2.2.2).2.1 = orgK e.2.1 ∧ (getE l e.2.2.2.2).2.2.1 = e.2.2.1 ∨ (getE l e.2.2.2.2).2.1 = 8 ∧ e.2.1 ≤ 6)) := by
      unfold fromE; rw [if_pos (hbg.2 b)]
    by_cases c : e.2.2.2.2 = -1
    · rw [bif_t (by rw [c]; rfl), tB_f (fun h => by have := (hF.1 h).1; omega), ← hJ.orig]
    · rw [bif_f (by simpa using c), bif_t (inbL.2 ⟨g0, by omega⟩), wrapI (by omega) (by omega)]
      by_cases d : e.2.2.2.2 = (lastE e.1 l 0 : Int) - 1
      · rw [bif_f (by simpa using d), bif_t (inbL.2 ⟨by omega, by omega⟩)]
        by_cases f : (getE l e.2.2.2.2).2.1 = orgK e.2.1
        · rw [bif_t (by simpa using f)]
          by_cases h : (getE l e.2.2.2.2).2.2.1 = e.2.2.1
          · rw [bif_t (by simpa using h), tB_t (hF.2 ⟨by omega, by omega, .inl ⟨f, h⟩⟩), ← hJ.orig]
          · rw [bif_f (by simpa using h)]
            by_cases j : (getE l e.2.2.2.2).2.1 = 8
            · rw [bif_t (by simpa using j)]
              by_cases q : e.2.1 ≤ 6
              · rw [decide_eq_true q, tB_t (hF.2 ⟨by omega, by omega, .inr ⟨j, q⟩⟩), ← hJ.orig]
              · rw [decide_eq_false q, tB_f (fun z => (hF.1 z).2.2.elim (fun u => h u.2) (fun u => q u.2)), ← hJ.orig]
            · rw [bif_f (by simpa using j), tB_f (fun z => (hF.1 z).2.2.elim (fun u => h u.2) (fun u => j u.1)), ← hJ.orig]
        · rw [bif_f (by simpa using f)]
          by_cases j : (getE l e.2.2.2.2).2.1 = 8
          · rw [bif_t (by simpa using j)]
            by_cases q : e.2.1 ≤ 6
            · rw [decide_eq_true q, tB_t (hF.2 ⟨by omega, by omega, .inr ⟨j, q⟩⟩), ← hJ.orig]
            · rw [decide_eq_false q, tB_f (fun z => (hF.1 z).2.2.elim (fun u => f u.1) (fun u => q u.2)), ← hJ.orig]
          · rw [bif_f (by simpa using j), tB_f (fun z => (hF.1 z).2.2.elim (fun u => f u.1) (fun u => j u.1)), ← hJ.orig]
      · rw [bif_t (by simpa using d), tB_f (fun h => d (by have := (hF.1 h).2.1; omega)), ← hJ.orig]
  · rw [tB_f b, bif_t (by rfl), ← hJ.orig]
    have hF : fromE l e ↔ e.2.2.2.2 = -1 := by unfold fromE; rw [if_neg (fun h => b (hbg.1 h))]
    by_cases c : e.2.2.2.2 = -1
    · rw [tB_t (hF.2 c), c]; rfl
    · rw [tB_f (fun h => c (hF.1 h))]
      have : (e.2.2.2.2 == (-1 : Int)) = false := by simpa using c
      show some (e.2.2.2.2 == (-1 : Int), s) = _
      rw [this]
end Go.Proofs.Ytkeolcgggondnaa.VX.VxF_T
namespace Go.Proofs.Ytkeolcgggondnaa.VX.VxF_T
open Go.Proofs
/-- The rule of a kind alone. -/
def ruleK (k : Int) (caps : List Int) (l : List Ev) (e : Ev) : Prop := match k with
  | 1 => e.2.2.1 = cntK l 0
  | 3 => 0 ≤ capO caps e.2.2.1 ∧ cntE l 7 e.2.2.1 = 0 ∧ e.2.2.2.1 = cntE l 3 e.2.2.1 ∧ e.2.2.2.1 ≤ cntE l 5 e.2.2.1 + capO caps e.2.2.1
  | 5 => 0 ≤ capO caps e.2.2.1 ∧ e.2.2.2.1 = cntE l 5 e.2.2.1 ∧ e.2.2.2.1 ≤ cntE l 3 e.2.2.1
  | 6 => 0 < cntE l 7 e.2.2.1 ∧ cntE l 5 e.2.2.1 = cntE l 3 e.2.2.1
  | 7 => 0 ≤ capO caps e.2.2.1 ∧ cntE l 7 e.2.2.1 = 0
  | 11 => cntE l 11 e.2.2.1 = cntE l 12 e.2.2.1
  | 12 => (cntE l 11 e.2.2.1 : Int) - cntE l 12 e.2.2.1 = 1
  | 14 => cntE l 14 e.2.2.1 = 0 ∧ firstE e.2.2.1 l = e.1 + 1
  | 15 => 0 < cntE l 14 e.2.2.1
  | _ => True
theorem rules2_eq {caps : List Int} {l : List Ev} {s : St} (hJ : JOK caps l s) (e : Ev) : F_trace_judge_rules_2 (e, s) = some (tB (ruleK 1 caps l e), s) := by
  unfold F_trace_judge_rules_2
  simp only
  rw [hJ.begun]
  by_cases h : e.2.2.1 = (cntK l 0 : Int)
  · rw [tB_t (show ruleK 1 caps l e from h), h, ← hJ.begun]; simp
  · rw [tB_f (show ¬ ruleK 1 caps l e from h), beq_eq_false_iff_ne.2 h, ← hJ.begun]
theorem rules1_eq {caps : List Int} {l : List Ev} {s : St} (hJ : JOK caps l s) (e : Ev) (hl : l.length < 1000) : F_trace_judge_rules_1 (e, s) = some ((cntE l 11 e.2.2.1 : Int) - cntE l 12 e.2.2.1, s) := by
  have a := cntE_le l 11 e.2.2.1
  have b := cntE_le l 12 e.2.2.1
  unfold F_trace_judge_rules_1
  simp only [n_eq, Option.bind_some, hJ.count]
  rw [wrapI (by omega) (by omega)]
end Go.Proofs.Ytkeolcgggondnaa.VX.VxF_T
namespace Go.Proofs.Ytkeolcgggondnaa.VX.VxF_T
open Go.Proofs
theorem capO_le {caps : List Int} (h : ∀ n ∈ caps, -1 ≤ n ∧ n ≤ 3) (o : Int) : -1 ≤ capO caps o ∧ capO caps o ≤ 3 := by
  unfold capO
  by_cases hl : o.toNat < caps.length
  · rw [show caps.getD o.toNat 0 = caps[o.toNat] by simp [List.getD, hl]]
    exact h _ (List.getElem_mem hl)
  · rw [show caps.getD o.toNat 0 = 0 by simp [List.getD, hl]]; omega
theorem rules3_eq {caps : List Int} {l : List Ev} {s : St} (hJ : JOK caps l s) (e : Ev) (hl : l.length < 1000) (hc : ∀ n ∈ caps, -1 ≤ n ∧ n ≤ 3) (h0 : 0 ≤ e.2.2.1) (h1 : e.2.2.1 < caps.length) : F_trace_judge_rules_3 (e, s) = some (tB (ruleK 3 caps l e), s) := by
  have a := cntE_le l 5 e.2.2.1
  have b := capO_le hc e.2.2.1
  have hR : ruleK 3 caps l e ↔ (0 ≤ capO caps e.2.2.1 ∧ cntE l 7 e.2.2.1 = 0 ∧ e.2.2.2.1 = cntE l 3 e.2.2.1 ∧ e.2.2.2.1 ≤ cntE l 5 e.2.2.1 + capO caps e.2.2.1) := Iff.rfl
  unfold F_trace_judge_rules_3
  simp only
  rw [open_eq e s h0 (by rw [hJ.caps]; exact h1)]
  simp only [n_eq, Option.bind_some, hJ.count, capO_eq _ _ h0, hJ.caps]
  by_cases c1 : 0 ≤ capO caps e.2.2.1
  · rw [bif_t (decide_eq_true c1)]
    by_cases c2 : cntE l 7 e.2.2.1 = 0
    · rw [bif_t (by rw [c2]; rfl)]
      by_cases c3 : e.2.2.2.1 = cntE l 3 e.2.2.1
      · rw [bif_t (by simpa using c3), bif_t (inbL.2 ⟨h0, h1⟩), wrapI (by omega) (by omega)]
        by_cases c4 : e.2.2.2.1 ≤ cntE l 5 e.2.2.1 + capO caps e.2.2.1
        · rw [decide_eq_true c4, tB_t (hR.2 ⟨c1, c2, c3, c4⟩), ← hJ.caps]
        · rw [decide_eq_false c4, tB_f (fun h => c4 (hR.1 h).2.2.2), ← hJ.caps]
      · rw [bif_f (by simpa using c3), tB_f (fun h => c3 (hR.1 h).2.2.1), ← hJ.caps]
    · rw [bif_f (by simp; omega), tB_f (fun h => c2 (hR.1 h).2.1), ← hJ.caps]
  · rw [bif_f (decide_eq_false c1), tB_f (fun h => c1 (hR.1 h).1), ← hJ.caps]
end Go.Proofs.Ytkeolcgggondnaa.VX.VxF_T
namespace Go.Proofs.Ytkeolcgggondnaa.VX.VxF_T
open Go.Proofs
theorem rules4_eq {caps : List Int} {l : List Ev} {s : St} (hJ : JOK caps l s) (e : Ev) (h0 : 0 ≤ e.2.2.1) (h1 : e.2.2.1 < caps.length) : F_trace_judge_rules_4 (e, s) = some (tB (ruleK 5 caps l e), s) := by
  have hR : ruleK 5 caps l e ↔ (0 ≤ capO caps e.2.2.1 ∧ e.2.2.2.1 = cntE l 5 e.2.2.1 ∧ e.2.2.2.1 ≤ cntE l 3 e.2.2.1) := Iff.rfl
  unfold F_trace_judge_rules_4
  simp only
  rw [open_eq e s h0 (by rw [hJ.caps]; exact h1)]
  simp only [n_eq, Option.bind_some, hJ.count, hJ.caps]
  by_cases c1 : 0 ≤ capO caps e.2.2.1
  · rw [bif_t (decide_eq_true c1)]
    by_cases c2 : e.2.2.2.1 = cntE l 5 e.2.2.1
    · rw [bif_t (by simpa using c2)]
      by_cases c3 : e.2.2.2.1 ≤ cntE l 3 e.2.2.1
      · rw [decide_eq_true c3, tB_t (hR.2 ⟨c1, c2, c3⟩), ← hJ.caps]
      · rw [decide_eq_false c3, tB_f (fun h => c3 (hR.1 h).2.2), ← hJ.caps]
    · rw [bif_f (by simpa using c2), tB_f (fun h => c2 (hR.1 h).2.1), ← hJ.caps]
  · rw [bif_f (decide_eq_false c1), tB_f (fun h => c1 (hR.1 h).1), ← hJ.caps]
theorem rules5_eq {caps : List Int} {l : List Ev} {s : St} (hJ : JOK caps l s) (e : Ev) : F_trace_judge_rules_5 (e, s) = some (tB (ruleK 6 caps l e), s) := by
  have hR : ruleK 6 caps l e ↔ (0 < cntE l 7 e.2.2.1 ∧ cntE l 5 e.2.2.1 = cntE l 3 e.2.2.1) := Iff.rfl
  unfold F_trace_judge_rules_5
  simp only [n_eq, Option.bind_some, hJ.count]
  by_cases c1 : 0 < cntE l 7 e.2.2.1
  · rw [bif_t (decide_eq_true (by omega))]
    by_cases c2 : cntE l 5 e.2.2.1 = cntE l 3 e.2.2.1
    · rw [tB_t (hR.2 ⟨c1, c2⟩), c2]; simp
    · rw [tB_f (fun h => c2 (hR.1 h).2), beq_eq_false_iff_ne.2 (by omega)]
  · rw [bif_f (decide_eq_false (by omega)), tB_f (fun h => c1 (hR.1 h).1)]
theorem rules6_eq {caps : List Int} {l : List Ev} {s : St} (hJ : JOK caps l s) (e : Ev) (h0 : 0 ≤ e.2.2.1) (h1 : e.2.2.1 < caps.length) : F_trace_judge_rules_6 (e, s) = some (tB (ruleK 7 caps l e), s) := by
  have hR : ruleK 7 caps l e ↔ (0 ≤ capO caps e.2.2.1 ∧ cntE l 7 e.2.2.1 = 0) := Iff.rfl
  unfold F_trace_judge_rules_6
  simp only
  rw [open_eq e s h0 (by rw [hJ.caps]; exact h1)]
  simp only [n_eq, Option.bind_some, hJ.count, hJ.caps]
  by_cases c1 : 0 ≤ capO caps e.2.2.1
  · rw [bif_t (decide_eq_true c1)]
    by_cases c2 : cntE l 7 e.2.2.1 = 0
    · rw [tB_t (hR.2 ⟨c1, c2⟩), c2, ← hJ.caps]; rfl
    · rw [tB_f (fun h => c2 (hR.1 h).2), beq_eq_false_iff_ne.2 (by omega), ← hJ.caps]
  · rw [bif_f (decide_eq_false c1), tB_f (fun h => c1 (hR.1 h).1), ← hJ.caps]
end Go.Proofs.Ytkeolcgggondnaa.VX.VxF_T
namespace Go.Proofs.Ytkeolcgggondnaa.VX.VxF_T
open Go.Proofs
theorem rules7_eq {caps : List Int} {l : List Ev} {s : St} (hJ : JOK caps l s) (e : Ev) (hl : l.length < 1000) : F_trace_judge_rules_7 (e, s) = some (tB (ruleK 11 caps l e), s) := by
  have hR : ruleK 11 caps l e ↔ cntE l 11 e.2.2.1 = cntE l 12 e.2.2.1 := Iff.rfl
  unfold F_trace_judge_rules_7
  simp only
  rw [rules1_eq hJ e hl]
  simp only [Option.bind_some]
  by_cases c : cntE l 11 e.2.2.1 = cntE l 12 e.2.2.1
  · rw [tB_t (hR.2 c), c, Int.sub_self]; rfl
  · rw [tB_f (fun h => c (hR.1 h)), beq_eq_false_iff_ne.2 (by omega)]
theorem rules8_eq {caps : List Int} {l : List Ev} {s : St} (hJ : JOK caps l s) (e : Ev) (hl : l.length < 1000) : F_trace_judge_rules_8 (e, s) = some (tB (ruleK 12 caps l e), s) := by
  have hR : ruleK 12 caps l e ↔ (cntE l 11 e.2.2.1 : Int) - cntE l 12 e.2.2.1 = 1 := Iff.rfl
  unfold F_trace_judge_rules_8
  simp only
  rw [rules1_eq hJ e hl]
  simp only [Option.bind_some]
  by_cases c : (cntE l 11 e.2.2.1 : Int) - cntE l 12 e.2.2.1 = 1
  · rw [tB_t (hR.2 c), c]; rfl
  · rw [tB_f (fun h => c (hR.1 h)), beq_eq_false_iff_ne.2 c]
theorem rules10_eq {caps : List Int} {l : List Ev} {s : St} (hJ : JOK caps l s) (e : Ev) : F_trace_judge_rules_10 (e, s) = some (tB (ruleK 15 caps l e), s) := by
  have hR : ruleK 15 caps l e ↔ 0 < cntE l 14 e.2.2.1 := Iff.rfl
  unfold F_trace_judge_rules_10
  simp only [n_eq, Option.bind_some, hJ.count]
  by_cases c : 0 < cntE l 14 e.2.2.1
  · rw [tB_t (hR.2 c), decide_eq_true (by omega)]
  · rw [tB_f (fun h => c (hR.1 h)), decide_eq_false (by omega)]
end Go.Proofs.Ytkeolcgggondnaa.VX.VxF_T
namespace Go.Proofs.Ytkeolcgggondnaa.VX.VxF_T
open Go.Proofs
theorem rules9_eq {caps : List Int} {l : List Ev} {s : St} (hJ : JOK caps l s) (e : Ev) (g0 : 0 ≤ e.1) (g1 : e.1 ≤ 7) : F_trace_judge_rules_9 (e, s) = some (tB (ruleK 14 caps l e), s) := by
  have hR : ruleK 14 caps l e ↔ (cntE l 14 e.2.2.1 = 0 ∧ firstE e.2.2.1 l = e.1 + 1) := Iff.rfl
  have hf : @mlook Int Int (Ty.beq (.int .i64)) (Ty.zero (.int .i64)) e.2.2.1 s.2.2.2.2.1 = firstE e.2.2.1 l := hJ.first e.2.2.1
  unfold F_trace_judge_rules_9
  simp only [n_eq, Option.bind_some, hJ.count]
  by_cases c1 : cntE l 14 e.2.2.1 = 0
  · rw [bif_t (by rw [c1]; rfl), hf, wrapI (by omega) (by omega)]
    by_cases c2 : firstE e.2.2.1 l = e.1 + 1
    · rw [tB_t (hR.2 ⟨c1, c2⟩), c2]; simp
    · rw [tB_f (fun h => c2 (hR.1 h).2), beq_eq_false_iff_ne.2 c2]
  · rw [bif_f (by simp; omega), tB_f (fun h => c1 (hR.1 h).1)]
end Go.Proofs.Ytkeolcgggondnaa.VX.VxF_T
namespace Go.Proofs.Ytkeolcgggondnaa.VX.VxF_T
open Go.Proofs
theorem ruleE_iff (caps : List Int) (l : List Ev) (e : Ev) : ruleE caps l e ↔ ruleK e.2.1 caps l e := by
  unfold ruleE
  generalize hk : e.2.1 = k
  constructor
  · rintro ⟨a1, a3, a5, a6, a7, a11, a12, a14, a15⟩
    unfold ruleK
    split
    · exact a1 rfl
    · exact a3 rfl
    · exact a5 rfl
    · exact a6 rfl
    · exact a7 rfl
    · exact a11 rfl
    · exact a12 rfl
    · exact a14 rfl
    · exact a15 rfl
    · trivial
  · intro h
    refine ⟨?_, ?_, ?_, ?_, ?_, ?_, ?_, ?_, ?_⟩ <;> (intro q; rw [q] at h; exact h)
end Go.Proofs.Ytkeolcgggondnaa.VX.VxF_T
namespace Go.Proofs.Ytkeolcgggondnaa.VX.VxF_T
open Go.Proofs
noncomputable def tailT (e : Ev) (s : St) : Option (Bool × St) :=
  bif eqI e.2.1 1 then (F_trace_judge_rules_2 (e, s)).bind fun r => some (r.1, r.2.1, r.2.2.1, r.2.2.2.1, r.2.2.2.2.1, r.2.2.2.2.2.1, r.2.2.2.2.2.2)
  else bif eqI e.2.1 3 then (F_trace_judge_rules_3 (e, s)).bind fun r => some (r.1, r.2.1, r.2.2.1, r.2.2.2.1, r.2.2.2.2.1, r.2.2.2.2.2.1, r.2.2.2.2.2.2)
  else bif eqI e.2.1 5 then (F_trace_judge_rules_4 (e, s)).bind fun r => some (r.1, r.2.1, r.2.2.1, r.2.2.2.1, r.2.2.2.2.1, r.2.2.2.2.2.1, r.2.2.2.2.2.2)
  else bif eqI e.2.1 6 then (F_trace_judge_rules_5 (e, s)).bind fun r => some (r.1, r.2.1, r.2.2.1, r.2.2.2.1, r.2.2.2.2.1, r.2.2.2.2.2.1, r.2.2.2.2.2.2)
  else bif eqI e.2.1 7 then (F_trace_judge_rules_6 (e, s)).bind fun r => some (r.1, r.2.1, r.2.2.1, r.2.2.2.1, r.2.2.2.2.1, r.2.2.2.2.2.1, r.2.2.2.2.2.2)
  else bif eqI e.2.1 11 then (F_trace_judge_rules_7 (e, s)).bind fun r => some (r.1, r.2.1, r.2.2.1, r.2.2.2.1, r.2.2.2.2.1, r.2.2.2.2.2.1, r.2.2.2.2.2.2)
  else bif eqI e.2.1 12 then (F_trace_judge_rules_8 (e, s)).bind fun r => some (r.1, r.2.1, r.2.2.1, r.2.2.2.1, r.2.2.2.2.1, r.2.2.2.2.2.1, r.2.2.2.2.2.2)
  else bif eqI e.2.1 14 then (F_trace_judge_rules_9 (e, s)).bind fun r => some (r.1, r.2.1, r.2.2.1, r.2.2.2.1, r.2.2.2.2.1, r.2.2.2.2.2.1, r.2.2.2.2.2.2)
  else bif eqI e.2.1 15 then (F_trace_judge_rules_10 (e, s)).bind fun r => some (r.1, r.2.1, r.2.2.1, r.2.2.2.1, r.2.2.2.2.1, r.2.2.2.2.2.1, r.2.2.2.2.2.2)
  else some (true, s.1, s.2.1, s.2.2.1, s.2.2.2.1, s.2.2.2.2.1, s.2.2.2.2.2)
theorem eqI_t {a b : Int} (h : a = b) : eqI a b = true := by unfold eqI; simpa using h
theorem eqI_f {a b : Int} (h : a ≠ b) : eqI a b = false := by unfold eqI; simpa using h
theorem tail_eq {caps : List Int} {l : List Ev} {s : St} (hJ : JOK caps l s) (e : Ev) (hl : l.length < 1000) (hc : ∀ n ∈ caps, -1 ≤ n ∧ n ≤ 3) (hs : shapeE l e) (ho : e.2.1 ≠ 1 → 0 ≤ e.2.2.1 ∧ e.2.2.1 < objK caps e.2.1) : tailT e s = some (tB (ruleE caps l e), s) := by
  obtain ⟨g0, g1, k0, k1, n0, s0, s1⟩ := hs
  rw [propext (ruleE_iff caps l e)]
  have hch : 2 ≤ e.2.1 ∧ e.2.1 ≤ 7 → 0 ≤ e.2.2.1 ∧ e.2.2.1 < caps.length := fun h => by
    have := ho (by omega)
    unfold objK at this
    rw [if_pos h] at this; exact this
  unfold tailT
  by_cases c1 : e.2.1 = 1
  · rw [bif_t (eqI_t c1), rules2_eq hJ, c1]; rfl
  rw [bif_f (eqI_f c1)]
  by_cases c3 : e.2.1 = 3
  · have := hch (by omega)
    rw [bif_t (eqI_t c3), rules3_eq hJ e hl hc this.1 this.2, c3]; rfl
  rw [bif_f (eqI_f c3)]
  by_cases c5 : e.2.1 = 5
  · have := hch (by omega)
    rw [bif_t (eqI_t c5), rules4_eq hJ e this.1 this.2, c5]; rfl
  rw [bif_f (eqI_f c5)]
  by_cases c6 : e.2.1 = 6
  · rw [bif_t (eqI_t c6), rules5_eq hJ e, c6]; rfl
  rw [bif_f (eqI_f c6)]
  by_cases c7 : e.2.1 = 7
  · have := hch (by omega)
    rw [bif_t (eqI_t c7), rules6_eq hJ e this.1 this.2, c7]; rfl
  rw [bif_f (eqI_f c7)]
  by_cases c11 : e.2.1 = 11
  · rw [bif_t (eqI_t c11), rules7_eq hJ e hl, c11]; rfl
  rw [bif_f (eqI_f c11)]
  by_cases c12 : e.2.1 = 12
  · rw [bif_t (eqI_t c12), rules8_eq hJ e hl, c12]; rfl
  rw [bif_f (eqI_f c12)]
  by_cases c14 : e.2.1 = 14
  · rw [bif_t (eqI_t c14), rules9_eq hJ e g0 g1, c14]; rfl
  rw [bif_f (eqI_f c14)]
  by_cases c15 : e.2.1 = 15
  · rw [bif_t (eqI_t c15), rules10_eq hJ e, c15]; rfl
  rw [bif_f (eqI_f c15), tB_t]
  generalize e.2.1 = k at *
  unfold ruleK
  split <;> first | contradiction | trivial
end Go.Proofs.Ytkeolcgggondnaa.VX.VxF_T
namespace Go.Proofs.Ytkeolcgggondnaa.VX.VxF_T
open Go.Proofs
theorem right_eq {caps : List Int} {l : List Ev} {s : St} (hJ : JOK caps l s) (e : Ev) (hl : l.length < 1000) (hc : ∀ n ∈ caps, -1 ≤ n ∧ n ≤ 3) (hcl : caps.length ≤ 4) : F_trace_judge_right (l, e, s) = some (tB (goodE caps l e), s) := by
  obtain ⟨s1, s2, s3, s4, s5, s6⟩ := s
  have hcaps : s1 = caps := hJ.caps
  subst hcaps
  unfold F_trace_judge_right
  simp only [in_eq, Option.bind_some, objs_eq]
  rw [wrapI (n := (l.length : Int) - 1) (by omega) (by omega)]
  have hg : ∀ b : Prop, (goodE s1 l e ↔ b) → tB (goodE s1 l e) = tB b := fun b h => by rw [propext h]
  by_cases a1 : 0 ≤ e.1 ∧ e.1 ≤ 7
  case neg => rw [decide_eq_false a1, bif_t (by rfl), tB_f (fun h => a1 ⟨h.1.1, h.1.2.1⟩)]
  rw [decide_eq_true a1, bif_f (by rfl)]
  by_cases a2 : 0 ≤ e.2.1 ∧ e.2.1 ≤ 17
  case neg => rw [decide_eq_false a2, bif_t (by rfl), tB_f (fun h => a2 ⟨h.1.2.2.1, h.1.2.2.2.1⟩)]
  rw [decide_eq_true a2, bif_f (by rfl)]
  by_cases a3 : e.2.2.2.1 < 0
  · rw [bif_t (decide_eq_true a3), tB_f (fun h => by have := h.1.2.2.2.2.1; omega)]
  rw [bif_f (decide_eq_false a3)]
  by_cases a4 : (-1 : Int) ≤ e.2.2.2.2 ∧ e.2.2.2.2 ≤ (l.length : Int) - 1
  case neg => 
    show (bif !(decide ((-1 : Int) ≤ e.2.2.2.2 ∧ e.2.2.2.2 ≤ (l.length : Int) - 1)) then _ else _) = _
    rw [decide_eq_false a4, bif_t (by rfl), tB_f (fun h => a4 ⟨h.1.2.2.2.2.2.1, by have := h.1.2.2.2.2.2.2; omega⟩)]
  show (bif !(decide ((-1 : Int) ≤ e.2.2.2.2 ∧ e.2.2.2.2 ≤ (l.length : Int) - 1)) then _ else _) = _
  rw [decide_eq_true a4, bif_f (by rfl)]
  have hs : shapeE l e := ⟨a1.1, a1.2, a2.1, a2.2, by omega, a4.1, by omega⟩
  by_cases k0 : e.2.1 = 0
  · rw [bif_t (by simpa using k0), begins_eq hJ e hs]
    have : goodE s1 l e ↔ startE l e := by unfold goodE; rw [if_pos k0]; exact ⟨fun h => h.2, fun h => ⟨hs, h⟩⟩
    rw [hg _ this]; rfl
  rw [bif_f (by simpa using k0)]
  have hG : goodE s1 l e ↔ (lastE e.1 l 0 ≠ 0 ∧ (¬ numK e.2.1 → e.2.2.2.1 = 0) ∧ (e.2.1 ≠ 1 → 0 ≤ e.2.2.1 ∧ e.2.2.1 < objK s1 e.2.1) ∧ fromE l e ∧ ruleE s1 l e) := by
    unfold goodE; rw [if_neg k0]; exact ⟨fun h => h.2, fun h => ⟨hs, h⟩⟩
  have hob : 1 ≤ objK s1 e.2.1 + 1 ∧ objK s1 e.2.1 ≤ 4 := by
    unfold objK
    split
    · omega
    · split
      · omega
      · split <;> omega
  have core : (¬ numK e.2.1 → e.2.2.2.1 = 0) → lastE e.1 l 0 ≠ 0 → (e.2.1 ≠ 1 → 0 ≤ e.2.2.1 ∧ e.2.2.1 < objK s1 e.2.1) →
      (bif !(tB (fromE l e)) then some (false, s1, s2, s3, s4, s5, s6) else tailT e (s1, s2, s3, s4, s5, s6)) = some (tB (goodE s1 l e), s1, s2, s3, s4, s5, s6) := by
    intro h1 h2 h3
    rw [tail_eq hJ e hl hc hs h3]
    by_cases hf : fromE l e
    · rw [tB_t hf, bif_f (by rfl)]
      by_cases hr : ruleE s1 l e
      · rw [tB_t hr, tB_t (hG.2 ⟨h2, h1, h3, hf, hr⟩)]
      · rw [tB_f hr, tB_f (fun h => hr (hG.1 h).2.2.2.2)]
    · rw [tB_f hf, bif_t (by rfl), tB_f (fun h => hf (hG.1 h).2.2.2.1)]
  have bg := began_eq hJ e hs hl k0
  have hobj : ∀ X Y : Option (Bool × St), (e.2.1 ≠ 1 → 0 ≤ e.2.2.1 ∧ e.2.2.1 < objK s1 e.2.1 → Y = some (tB (goodE s1 l e), s1, s2, s3, s4, s5, s6)) → (e.2.1 = 1 → X = some (tB (goodE s1 l e), s1, s2, s3, s4, s5, s6)) →
      (bif e.2.1 != 1 then (bif !(decide ((0 : Int) ≤ e.2.2.1 ∧ e.2.2.1 ≤ objK s1 e.2.1 - 1)) then some (false, s1, s2, s3, s4, s5, s6) else Y) else X) = some (tB (goodE s1 l e), s1, s2, s3, s4, s5, s6) := by
    intro X Y hY hX
    by_cases k1 : e.2.1 = 1
    · rw [bif_f (by simpa using k1)]; exact hX k1
    · rw [bif_t (by simpa using k1)]
      by_cases o : (0 : Int) ≤ e.2.2.1 ∧ e.2.2.1 ≤ objK s1 e.2.1 - 1
      · rw [decide_eq_true o, bif_f (by rfl)]
        exact hY k1 ⟨o.1, by omega⟩
      · rw [decide_eq_false o, bif_t (by rfl), tB_f (fun h => o (by have := (hG.1 h).2.2.1 k1; omega))]
  have hw : IntKind.wrap .i64 (objK s1 e.2.1 - 1) = objK s1 e.2.1 - 1 := wrapI (by omega) (by omega)
  rw [hw, bif_t (inbL.2 ⟨a1.1, by omega⟩), last_at hJ a1.1 a1.2, bg]
  simp only [Option.bind_some]
  by_cases k3 : e.2.1 = 3
  · have hn : ¬ numK e.2.1 → e.2.2.2.1 = 0 := fun h => absurd (.inl k3) h
    rw [bif_t (by simpa using k3)]
    by_cases z : lastE e.1 l 0 = 0
    · rw [bif_t (by rw [z]; rfl), tB_f (fun h => (hG.1 h).1 z)]
    rw [bif_f (by simp; omega)]
    exact hobj _ _ (fun k1 o => core hn z (fun _ => o)) (fun k1 => core hn z (fun h => absurd k1 h))
  rw [bif_f (by simpa using k3), bif_t (inbL.2 ⟨a1.1, by omega⟩)]
  by_cases z : lastE e.1 l 0 = 0
  · rw [bif_t (by rw [z]; rfl), tB_f (fun h => (hG.1 h).1 z)]
  rw [bif_f (by simp; omega)]
  by_cases k5 : e.2.1 = 5
  · have hn : ¬ numK e.2.1 → e.2.2.2.1 = 0 := fun h => absurd (.inr k5) h
    rw [bif_f (by simp [k5])]
    exact hobj _ _ (fun k1 o => core hn z (fun _ => o)) (fun k1 => core hn z (fun h => absurd k1 h))
  rw [bif_t (by simpa using k5)]
  by_cases n : e.2.2.2.1 = 0
  · rw [bif_f (by simpa using n)]
    exact hobj _ _ (fun k1 o => core (fun _ => n) z (fun _ => o)) (fun k1 => core (fun _ => n) z (fun h => absurd k1 h))
  · rw [bif_t (by simpa using n), tB_f (fun h => n ((hG.1 h).2.1 (fun q => q.elim k3 k5)))]
end Go.Proofs.Ytkeolcgggondnaa.VX.VxF_T
