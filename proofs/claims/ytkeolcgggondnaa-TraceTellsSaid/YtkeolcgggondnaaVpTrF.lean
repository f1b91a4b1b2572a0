/- Plain laws of trace: the reference's answer is the program's; the two statements. -/
import Derived.Test.YtkeolcgggondnaaVpTrE
set_option linter.unusedVariables false
set_option linter.unusedSimpArgs false
namespace Go.Proofs.Ytkeolcgggondnaa.VX.VxF_T
open Go.Proofs
theorem firstE_find (o : Int) : ∀ l : List Ev, firstE o l = match l.findIdx? (fun x => x.2.1 == 13 && x.2.2.1 == o) with | some j => (l.getD j zEv).1 + 1 | none => 0
  | [] => rfl
  | a :: l => by
    rw [firstE_cons, List.findIdx?_cons]
    by_cases h : a.2.1 = 13 ∧ a.2.2.1 = o
    · rw [if_pos h, if_pos (by simpa using h)]; rfl
    · rw [if_neg h, if_neg (by simpa using h), firstE_find o l]
      cases l.findIdx? (fun x => x.2.1 == 13 && x.2.2.1 == o) with
      | none => rfl
      | some j => rfl
theorem enderRef_eq {caps : List Int} {l : List Ev} {i : Nat} (h : i < l.length) (hl : l.length < 1000) (hk : l[i].2.1 = 14 ∨ l[i].2.1 = 15) (hg : 0 ≤ l[i].1) :
    F_plaitref14_ender (l, (i : Int)) = some (tB (¬ ruleK l[i].2.1 caps (l.take i) l[i])) := by
  have hlen : (l.take i).length = i := by simp; omega
  unfold F_plaitref14_ender
  simp only
  rw [bif_t (inb_nat h)]
  simp only [getAtE h, countRef_eq (Nat.le_of_lt h) hl, Option.bind_some, cutE, hlen]
  rw [bif_t (sub3L.2 ⟨by omega, by omega, by omega⟩)]
  rcases hk with hk | hk
  · rw [bif_f (by rw [hk]; rfl)]
    have key := loop_find (f := L_plaitref14_ender_6) (l.take i) (fun x => x.2.1 == 13 && x.2.2.1 == l[i].2.2.1) (fun j => (l, (i : Int), l.take i, (i : Int), (j : Int), l[i]))
      (fun j => .inl (tB (((l.take i).getD j zEv).1 ≠ l[i].1 ∨ 0 < cntE (l.take i) 14 l[i].2.2.1))) (.inr ()) (by
        intro j hj
        unfold L_plaitref14_ender_6
        simp only
        rw [bif_t (decide_eq_true (by omega)), bif_t (inb_nat hj), getAtE hj, wrapI (by omega) (by omega), countRef_eq (Nat.le_of_lt h) hl]
        have hd : (l.take i).getD j zEv = (l.take i)[j] := by rw [List.getD, List.getElem?_eq_getElem hj]; rfl
        rw [hd]
        generalize (l.take i)[j] = x
        by_cases a : x.2.1 = 13
        · rw [bif_t (by simpa using a)]
          by_cases b : x.2.2.1 = l[i].2.2.1
          · rw [bif_t (by simpa using b), if_pos (by simp [a, b])]
            by_cases c : x.1 = l[i].1
            · rw [bif_f (by simpa using c)]
              simp only [Option.bind_some]
              rw [tB_dec]
              congr 3
              exact tB_eq (by omega)
            · rw [bif_t (by simpa using c), tB_t (.inl c)]
          · rw [bif_f (by simpa using b), if_neg (by simp [b])]; rfl
        · rw [bif_f (by simpa using a), if_neg (by simp [a])]; rfl) (by
        unfold L_plaitref14_ender_6
        simp only
        rw [bif_f (decide_eq_false (by omega))])
    rw [show loop L_plaitref14_ender_6 (l, (i : Int), l.take i, (i : Int), 0, l[i]) = _ from key, hk]
    have hf := firstE_find l[i].2.2.1 (l.take i)
    have hR : ruleK 14 caps (l.take i) l[i] ↔ (cntE (l.take i) 14 l[i].2.2.1 = 0 ∧ firstE l[i].2.2.1 (l.take i) = l[i].1 + 1) := Iff.rfl
    cases hfi : (l.take i).findIdx? (fun x => x.2.1 == 13 && x.2.2.1 == l[i].2.2.1) with
    | none =>
      rw [hfi] at hf
      simp only [Option.bind_some]
      rw [tB_t]
      intro q
      have := (hR.1 q).2
      rw [hf] at this
      simp only at this; omega
    | some j =>
      rw [hfi] at hf
      simp only at hf
      simp only [Option.bind_some]
      refine some_tB ?_
      rw [hR, hf]
      omega
  · rw [bif_t (by rw [hk]; rfl), hk]
    have hR : ruleK 15 caps (l.take i) l[i] ↔ 0 < cntE (l.take i) 14 l[i].2.2.1 := Iff.rfl
    rw [tB_beqI]
    refine some_tB ?_
    rw [hR]; omega
theorem syncRef_eq {caps : List Int} {l : List Ev} {i : Nat} (h : i < l.length) (hl : l.length < 1000) (hg : 0 ≤ l[i].1) :
    F_plaitref14_sync (l, (i : Int)) = some (tB (¬ (10 ≤ l[i].2.1 → ruleK l[i].2.1 caps (l.take i) l[i]))) := by
  have hlen : (l.take i).length = i := by simp; omega
  have h1 := cntE_le (l.take i) 11 l[i].2.2.1
  have h2 := cntE_le (l.take i) 12 l[i].2.2.1
  unfold F_plaitref14_sync
  simp only
  rw [bif_t (inb_nat h)]
  simp only [getAtE h, countRef_eq (Nat.le_of_lt h) hl, Option.bind_some]
  rw [wrapI (by omega) (by omega)]
  by_cases c1 : l[i].2.1 = 11
  · rw [bif_t (by simpa using c1), tB_bneI, c1]
    refine some_tB ?_
    show _ ↔ ¬ ((10 : Int) ≤ 11 → cntE (l.take i) 11 l[i].2.2.1 = cntE (l.take i) 12 l[i].2.2.1)
    omega
  rw [bif_f (by simpa using c1)]
  by_cases c2 : l[i].2.1 = 12
  · rw [bif_t (by simpa using c2), tB_bneI, c2]
    refine some_tB ?_
    show _ ↔ ¬ ((10 : Int) ≤ 12 → (cntE (l.take i) 11 l[i].2.2.1 : Int) - cntE (l.take i) 12 l[i].2.2.1 = 1)
    omega
  rw [bif_f (by simpa using c2)]
  by_cases c3 : l[i].2.1 = 14
  · rw [bif_t (by simpa using c3), enderRef_eq (caps := caps) h hl (.inl c3) hg]
    exact some_tB ⟨fun q r => q (r (by omega)), fun q r => q (fun _ => r)⟩
  rw [bif_f (by simpa using c3)]
  by_cases c4 : l[i].2.1 = 15
  · rw [bif_t (by simpa using c4), enderRef_eq (caps := caps) h hl (.inr c4) hg]
    exact some_tB ⟨fun q r => q (r (by omega)), fun q r => q (fun _ => r)⟩
  rw [bif_f (by simpa using c4), tB_f]
  intro q
  refine q fun h10 => ?_
  generalize l[i].2.1 = k at *
  unfold ruleK
  split <;> first | contradiction | trivial | omega
theorem badRef_eq {caps : List Int} {l : List Ev} {i : Nat} (h : i < l.length) (hl : l.length < 1000) (hc : capsOK caps) (hG : GoodL caps (l.take i)) :
    F_plaitref14_bad (caps, l, (i : Int)) = some (tB (¬ goodE caps (l.take i) l[i])) := by
  unfold F_plaitref14_bad
  simp only
  rw [shapeRef_eq h]
  simp only [Option.bind_some]
  by_cases hs : shapeE (l.take i) l[i]
  case neg => rw [tB_t hs, tB_t (fun q : goodE caps (l.take i) l[i] => hs q.1)]; rfl
  rw [tB_f (fun q => q hs), begunRef_eq h hl hs]
  simp only [cond_false, Option.bind_some]
  rw [fieldsRef_eq h hl hs]
  simp only [Option.bind_some]
  by_cases k0 : l[i].2.1 = 0
  · have hgood : goodE caps (l.take i) l[i] ↔ startE (l.take i) l[i] := by unfold goodE; rw [if_pos k0]; exact ⟨fun q => q.2, fun q => ⟨hs, q⟩⟩
    rw [if_pos k0]
    by_cases hst : startE (l.take i) l[i]
    case neg => rw [tB_t hst, tB_t (fun q => hst (hgood.1 q))]; rfl
    have hb : F_plaitref14_began (l, (i : Int)) = some false := by
      unfold F_plaitref14_began
      simp only
      rw [bif_t (inb_nat h)]
      simp only [getAtE h]
      rw [bif_t (by simpa using k0)]
    have hch : F_plaitref14_channel (caps, l, (i : Int)) = some false := by
      rw [chanRef_eq h hl hc hG (fun q => by omega), tB_f]
      intro q; refine q ⟨?_, ?_, ?_, ?_⟩ <;> (intro r; omega)
    have hsy : F_plaitref14_sync (l, (i : Int)) = some false := by
      rw [syncRef_eq (caps := caps) h hl hs.1, tB_f]
      intro q; exact q (fun r => by omega)
    have hfi : (¬ numK l[i].2.1 → l[i].2.2.2.1 = 0) ∧ (¬ begK l[i].2.1 → l[i].2.2.2.2 = -1) ∧ (l[i].2.1 = 1 → l[i].2.2.1 = cntK (l.take i) 0) ∧ (l[i].2.1 ≠ 0 → l[i].2.1 ≠ 1 → 0 ≤ l[i].2.2.1 ∧ l[i].2.2.1 < objK caps l[i].2.1) :=
      ⟨fun _ => hst.2.2.1, fun q => absurd (.inl k0) q, fun q => by omega, fun q => absurd k0 q⟩
    rw [tB_f (fun q => q hst), tB_f (fun q => q hfi), hb, hch, hsy, tB_f (fun q => q (hgood.2 hst))]; rfl
  rw [if_neg k0]
  have hgood : goodE caps (l.take i) l[i] ↔ (lastE l[i].1 (l.take i) 0 ≠ 0 ∧ (¬ numK l[i].2.1 → l[i].2.2.2.1 = 0) ∧ (l[i].2.1 ≠ 1 → 0 ≤ l[i].2.2.1 ∧ l[i].2.2.1 < objK caps l[i].2.1) ∧ fromE (l.take i) l[i] ∧ ruleE caps (l.take i) l[i]) := by
    unfold goodE; rw [if_neg k0]; exact ⟨fun q => q.2, fun q => ⟨hs, q⟩⟩
  by_cases hla : lastE l[i].1 (l.take i) 0 ≠ 0
  case neg => rw [tB_t hla, tB_t (fun q => hla (hgood.1 q).1)]; rfl
  rw [tB_f (fun q => q hla)]
  simp only [cond_false]
  by_cases hfi : (¬ numK l[i].2.1 → l[i].2.2.2.1 = 0) ∧ (¬ begK l[i].2.1 → l[i].2.2.2.2 = -1) ∧ (l[i].2.1 = 1 → l[i].2.2.1 = cntK (l.take i) 0) ∧ (l[i].2.1 ≠ 0 → l[i].2.1 ≠ 1 → 0 ≤ l[i].2.2.1 ∧ l[i].2.2.1 < objK caps l[i].2.1)
  case neg =>
    rw [tB_t hfi, tB_t]
    · rfl
    · intro q
      obtain ⟨q1, q2, q3, q4, q5⟩ := hgood.1 q
      refine hfi ⟨q2, fun r => ?_, fun r => ?_, fun _ r => q3 r⟩
      · unfold fromE at q4; rw [if_neg r] at q4; exact q4
      · exact q5.1 r
  rw [tB_f (fun q => q hfi), beganRef_eq h hl hs hfi.2.1 k0]
  simp only [cond_false, Option.bind_some]
  by_cases hfr : fromE (l.take i) l[i]
  case neg => rw [tB_t hfr, tB_t (fun q => hfr (hgood.1 q).2.2.2.1)]; rfl
  have hob : 2 ≤ l[i].2.1 ∧ l[i].2.1 ≤ 7 → 0 ≤ l[i].2.2.1 ∧ l[i].2.2.1 < caps.length := fun q => by
    have := hfi.2.2.2 k0 (by omega)
    unfold objK at this
    rw [if_pos q] at this
    exact this
  rw [tB_f (fun q => q hfr), chanRef_eq h hl hc hG hob, syncRef_eq (caps := caps) h hl hs.1]
  simp only [cond_false, Option.bind_some, tB_cT]
  refine some_tB ?_
  have hr := ruleE_iff caps (l.take i) l[i]
  have hgr : goodE caps (l.take i) l[i] ↔ ruleK l[i].2.1 caps (l.take i) l[i] := by
    rw [hgood, hr]
    exact ⟨fun q => q.2.2.2.2, fun q => ⟨hla, hfi.1, fun r => hfi.2.2.2 k0 r, hfr, q⟩⟩
  rw [hgr]
  constructor
  · rintro (q | q) r
    · refine q ⟨?_, ?_, ?_, ?_⟩ <;> (intro s; rw [s] at r; exact r)
    · exact q (fun _ => r)
  · intro q
    by_cases k10 : 10 ≤ l[i].2.1
    · exact .inr fun r => q (r k10)
    · refine .inl fun r => q ?_
      obtain ⟨r3, r5, r6, r7⟩ := r
      by_cases k1 : l[i].2.1 = 1
      · rw [k1]; exact hfi.2.2.1 k1
      by_cases k3 : l[i].2.1 = 3
      · rw [k3]; exact r3 k3
      by_cases k5 : l[i].2.1 = 5
      · rw [k5]; exact r5 k5
      by_cases k6 : l[i].2.1 = 6
      · rw [k6]; exact r6 k6
      by_cases k7 : l[i].2.1 = 7
      · rw [k7]; exact r7 k7
      generalize l[i].2.1 = k at *
      unfold ruleK
      split <;> first | contradiction | trivial | omega
end Go.Proofs.Ytkeolcgggondnaa.VX.VxF_T
