/- Plain laws of trace: the reference's answers. -/
import Derived.Test.YtkeolcgggondnaaVpTrD
set_option linter.unusedVariables false
set_option linter.unusedSimpArgs false
namespace Go.Proofs.Ytkeolcgggondnaa.VX.VxF_T
open Go.Proofs
theorem lastRef_eq {l : List Ev} {i : Nat} (h : i < l.length) (hl : l.length < 1000) : F_plaitref14_Last (l, (i : Int)) = some ((lastE l[i].1 (l.take i) 0 : Int) - 1) := by
  have hlen : (l.take i).length = i := by simp; omega
  have key := loop_count (f := L_plaitref14_Last_4) i (fun k => (l, ((i : Int), ((lastE l[i].1 (l.take k) 0 : Int) - 1, ((i : Int), (k : Int)))))) ((lastE l[i].1 (l.take i) 0 : Int) - 1) (by
      intro k hk
      unfold L_plaitref14_Last_4
      simp only
      rw [bif_t (decide_eq_true (by omega)), bif_t (inb_nat (by omega)), bif_t (inb_nat h), getAtE (by omega : k < l.length), getAtE h, wrapI (by omega) (by omega)]
      have hlen : (l.take k).length = k := by simp; omega
      rw [← List.take_append_getElem (by omega : k < l.length), lastE_app, hlen]
      by_cases hg : l[k].1 = l[i].1
      · rw [bif_t (by simpa using hg), if_pos hg]
        have : (k : Int) = ((0 + k + 1 : Nat) : Int) - 1 := by omega
        rw [← this]; rfl
      · rw [bif_f (by simpa using hg), if_neg hg]; rfl) (by
      unfold L_plaitref14_Last_4
      simp only
      rw [bif_f (decide_eq_false (by omega))]) 0 (Nat.zero_le _)
  unfold F_plaitref14_Last
  simp only
  rw [bif_t (sub3L.2 ⟨by omega, by omega, by omega⟩), cutE, hlen]
  rw [show loop L_plaitref14_Last_4 (l, (i : Int), (Int.negSucc 0), (i : Int), 0) = _ from key]
  rfl
theorem countRef_eq {l : List Ev} {i : Nat} (h : i ≤ l.length) (hl : l.length < 1000) (k o : Int) : F_plaitref14_Count (l, (i : Int), k, o) = some (cntE (l.take i) k o : Int) := by
  have hlen : (l.take i).length = i := by simp; omega
  have key := loop_count (f := L_plaitref14_Count_4) i (fun j => (k, o, (cntE (l.take j) k o : Int), l.take i, (i : Int), (j : Int))) (cntE (l.take i) k o : Int) (by
      intro j hj
      have hj' : j < (l.take i).length := by omega
      unfold L_plaitref14_Count_4
      simp only
      have h1 := cntE_le (l.take j) k o
      have h2 : (l.take j).length ≤ 1000 := by simp; omega
      rw [bif_t (decide_eq_true (by omega)), bif_t (inb_nat hj'), getAtE hj', wrapI (n := (j : Int) + 1) (by omega) (by omega), wrapI (n := (cntE (l.take j) k o : Int) + 1) (by omega) (by omega)]
      have hx : (l.take i)[j] = l[j] := by simp
      rw [hx, ← List.take_append_getElem (by omega : j < l.length), cntE_app]
      by_cases a : l[j].2.1 = k
      · rw [bif_t (by simpa using a)]
        by_cases b : l[j].2.2.1 = o
        · rw [bif_t (by simpa using b), if_pos ⟨a, b⟩]; rfl
        · rw [bif_f (by simpa using b), if_neg (fun q => b q.2)]; rfl
      · rw [bif_f (by simpa using a), if_neg (fun q => a q.1)]; rfl) (by
      unfold L_plaitref14_Count_4
      simp only
      rw [bif_f (decide_eq_false (by omega))]) 0 (Nat.zero_le _)
  unfold F_plaitref14_Count
  simp only
  rw [bif_t (sub3L.2 ⟨by omega, by omega, by omega⟩), cutE, hlen]
  rw [show loop L_plaitref14_Count_4 (k, o, (0 : Int), l.take i, (i : Int), 0) = _ from key]
  rfl
theorem getE_take {l : List Ev} {i : Nat} (h : i ≤ l.length) {s : Int} (h0 : 0 ≤ s) (h1 : s < i) : getE l s = getE (l.take i) s := by
  unfold getE
  have : s.toNat < i := by omega
  have h2 : s.toNat < l.length := by omega
  simp [List.getD, List.getElem?_take, this]
theorem shapeRef_eq {l : List Ev} {i : Nat} (h : i < l.length) : F_plaitref14_shape (l, (i : Int)) = some (tB (¬ shapeE (l.take i) l[i])) := by
  have hlen : (l.take i).length = i := by simp; omega
  unfold F_plaitref14_shape
  simp only [inb_nat h, cond_true, getAtE h, neg1, tB_dec, tB_cT]
  refine some_tB ?_
  unfold shapeE
  rw [hlen]
  omega
theorem begunRef_eq {l : List Ev} {i : Nat} (h : i < l.length) (hl : l.length < 1000) (hs : shapeE (l.take i) l[i]) : F_plaitref14_begun (l, (i : Int)) = some (tB (¬ (if l[i].2.1 = 0 then startE (l.take i) l[i] else lastE l[i].1 (l.take i) 0 ≠ 0))) := by
  have hlen : (l.take i).length = i := by simp; omega
  unfold shapeE at hs
  rw [hlen] at hs
  have hg : ∀ s : Int, 0 ≤ s → s < i → getE l s = getE (l.take i) s := fun s h0 h1 => getE_take (by omega) h0 h1
  have hi : 0 ≤ l[i].2.2.2.2 → inb l[i].2.2.2.2 l.length = true := fun h0 => inbL.2 ⟨h0, by omega⟩
  unfold F_plaitref14_begun
  rw [bif_t (inb_nat h), lastRef_eq h hl]
  simp only [getE_at, getAtE h, Option.bind_some]
  unfold startE
  by_cases hz : 0 ≤ l[i].2.2.2.2
  · rw [hi hz, hg _ hz (by omega)]
    generalize getE (l.take i) l[i].2.2.2.2 = x
    generalize l[i] = e at *
    generalize lastE e.1 (l.take i) 0 = n
    simp only [cond_true, neg1, tB_dec, tB_bneI, tB_beqI, tB_cT, tB_eF, tB_c2]
    refine some_tB ?_
    simp only [iteP]
    omega
  · have hn : l[i].2.2.2.2 < 0 := by omega
    generalize getE (l.take i) l[i].2.2.2.2 = x
    generalize l[i] = e at *
    generalize lastE e.1 (l.take i) 0 = n
    simp only [decide_eq_true hn, cond_true, neg1, tB_dec, tB_bneI, tB_beqI, tB_cT, tB_eF, tB_c2, tB_tf]
    refine some_tB ?_
    simp only [iteP]
    omega
theorem numRef_eq (k : Int) : F_plaitref14_numbered k = some (tB (numK k)) := by
  unfold F_plaitref14_numbered
  simp only [tB_beqI, tB_cT]; rfl
theorem begRef_eq (k : Int) : F_plaitref14_begins k = some (tB (begK k)) := by
  unfold F_plaitref14_begins
  simp only [tB_beqI, tB_cT]; rfl
theorem orgRef_eq (k : Int) : F_plaitref14_origin k = some (orgK k) := by
  unfold F_plaitref14_origin orgK
  simp only [Bool.cond_eq_ite, beq_iff_eq]
  repeat' split
  all_goals first | rfl | omega
theorem mostRef_eq (caps : List Int) (k : Int) (h0 : 0 ≤ k) (h1 : k ≤ 17) : F_plaitref14_most (caps, k) = some (objK caps k) := by
  unfold F_plaitref14_most objK
  simp only [Bool.cond_eq_ite, beq_iff_eq, decide_eq_true_eq]
  repeat' split
  all_goals first | rfl | omega
theorem cntRef_eq {l : List Ev} {i : Nat} (h : i < l.length) (hl : l.length < 1000) (e : Ev) : loop L_plaitref14_fields_8 (0, l.take i, ((l.take i).length : Int), 0, e) = some ((cntK (l.take i) 0 : Int), e) := by
  have hlen : (l.take i).length = i := by simp; omega
  rw [hlen]
  refine loop_count (f := L_plaitref14_fields_8) i (fun j => ((cntK (l.take j) 0 : Int), l.take i, (i : Int), (j : Int), e)) ((cntK (l.take i) 0 : Int), e) (by
      intro j hj
      have hj' : j < (l.take i).length := by omega
      unfold L_plaitref14_fields_8
      simp only
      have h1 := cntK_le (l.take j) 0
      have h2 : (l.take j).length ≤ 1000 := by simp; omega
      rw [bif_t (decide_eq_true (by omega)), bif_t (inb_nat hj'), getAtE hj', wrapI (n := (j : Int) + 1) (by omega) (by omega), wrapI (n := (cntK (l.take j) 0 : Int) + 1) (by omega) (by omega)]
      have hx : (l.take i)[j] = l[j] := by simp
      rw [hx, ← List.take_append_getElem (by omega : j < l.length), cntK_app]
      by_cases a : l[j].2.1 = 0
      · rw [bif_t (by simpa using a), if_pos a]; rfl
      · rw [bif_f (by simpa using a), if_neg a]; rfl) (by
      unfold L_plaitref14_fields_8
      simp only
      rw [bif_f (decide_eq_false (by omega))]) 0 (Nat.zero_le _)
theorem fieldsRef_eq {caps : List Int} {l : List Ev} {i : Nat} (h : i < l.length) (hl : l.length < 1000) (hs : shapeE (l.take i) l[i]) :
    F_plaitref14_fields (caps, l, (i : Int)) = some (tB (¬ ((¬ numK l[i].2.1 → l[i].2.2.2.1 = 0) ∧ (¬ begK l[i].2.1 → l[i].2.2.2.2 = -1) ∧ (l[i].2.1 = 1 → l[i].2.2.1 = cntK (l.take i) 0) ∧ (l[i].2.1 ≠ 0 → l[i].2.1 ≠ 1 → 0 ≤ l[i].2.2.1 ∧ l[i].2.2.1 < objK caps l[i].2.1)))) := by
  have hk := mostRef_eq caps l[i].2.1 hs.2.2.1 hs.2.2.2.1
  have hc := cntRef_eq h hl l[i]
  have h3 : sub3 0 (i : Int) l.length = true := sub3L.2 ⟨by omega, by omega, by omega⟩
  unfold F_plaitref14_fields
  rw [bif_t (inb_nat h)]
  simp only [getAtE h, cutE, numRef_eq, begRef_eq, Option.bind_some, hc, hk, h3, cond_true, neg1, tB_dec, tB_not, tB_bneI, tB_beqI, tB_cT, tB_eF, tB_c2]
  refine some_tB ?_
  generalize l[i] = e at *
  generalize objK caps e.2.1 = o
  generalize cntK (l.take i) 0 = c
  unfold numK begK
  omega
theorem beganRef_eq {l : List Ev} {i : Nat} (h : i < l.length) (hl : l.length < 1000) (hs : shapeE (l.take i) l[i]) (h2 : ¬ begK l[i].2.1 → l[i].2.2.2.2 = -1) (hk : l[i].2.1 ≠ 0) :
    F_plaitref14_began (l, (i : Int)) = some (tB (¬ fromE (l.take i) l[i])) := by
  have hlen : (l.take i).length = i := by simp; omega
  unfold shapeE at hs
  rw [hlen] at hs
  have hg : ∀ s : Int, 0 ≤ s → s < i → getE l s = getE (l.take i) s := fun s h0 h1 => getE_take (by omega) h0 h1
  have hi : 0 ≤ l[i].2.2.2.2 → inb l[i].2.2.2.2 l.length = true := fun h0 => inbL.2 ⟨h0, by omega⟩
  unfold F_plaitref14_began
  rw [bif_t (inb_nat h), lastRef_eq h hl]
  simp only [getE_at, getAtE h, Option.bind_some, orgRef_eq, begRef_eq]
  unfold fromE
  by_cases hz : 0 ≤ l[i].2.2.2.2
  · rw [hi hz, hg _ hz (by omega)]
    generalize getE (l.take i) l[i].2.2.2.2 = x
    generalize l[i] = e at *
    generalize lastE e.1 (l.take i) 0 = n
    generalize orgK e.2.1 = o
    simp only [cond_true, neg1, tB_dec, tB_bneI, tB_beqI, tB_not, tB_cT, tB_cF, tB_eF, tB_c2]
    refine some_tB ?_
    simp only [iteP]
    unfold begK at *
    omega
  · have hn : l[i].2.2.2.2 < 0 := by omega
    generalize getE (l.take i) l[i].2.2.2.2 = x
    generalize l[i] = e at *
    generalize lastE e.1 (l.take i) 0 = n
    simp only [decide_eq_true hn, cond_true, neg1, tB_dec, tB_bneI, tB_beqI, tB_not, tB_cT, tB_cF, tB_eF, tB_c2, tB_ft]
    refine some_tB ?_
    simp only [iteP]
    unfold begK at *
    omega
theorem chanRef_eq {caps : List Int} {l : List Ev} {i : Nat} (h : i < l.length) (hl : l.length < 1000) (hc : capsOK caps) (hG : GoodL caps (l.take i)) (ho : 2 ≤ l[i].2.1 ∧ l[i].2.1 ≤ 7 → 0 ≤ l[i].2.2.1 ∧ l[i].2.2.1 < caps.length) :
    F_plaitref14_channel (caps, l, (i : Int)) = some (tB (¬ ((l[i].2.1 = 3 → ruleK 3 caps (l.take i) l[i]) ∧ (l[i].2.1 = 5 → ruleK 5 caps (l.take i) l[i]) ∧ (l[i].2.1 = 6 → ruleK 6 caps (l.take i) l[i]) ∧ (l[i].2.1 = 7 → ruleK 7 caps (l.take i) l[i])))) := by
  have hop : 0 < cntE (l.take i) 7 l[i].2.2.1 → 0 ≤ capO caps l[i].2.2.1 := fun q => closed_open hG q
  have h5 := cntE_le (l.take i) 5 l[i].2.2.1
  have hlen : (l.take i).length = i := by simp; omega
  have hcap : 2 ≤ l[i].2.1 ∧ l[i].2.1 ≤ 7 → -1 ≤ capO caps l[i].2.2.1 ∧ capO caps l[i].2.2.1 ≤ 3 := fun q => by
    obtain ⟨a, b⟩ := ho q
    unfold capO
    have : l[i].2.2.1.toNat < caps.length := by omega
    simp only [List.getD, List.getElem?_eq_getElem this, Option.getD_some]
    exact hc.2 _ (List.getElem_mem this)
  have hin : 2 ≤ l[i].2.1 ∧ l[i].2.1 ≤ 7 → inb l[i].2.2.1 caps.length = true := fun q => inbL.2 (ho q)
  have hca : 2 ≤ l[i].2.1 ∧ l[i].2.1 ≤ 7 → getAt (0 : Int) caps (toN l[i].2.2.1) = capO caps l[i].2.2.1 := fun q => capO_eq _ _ (ho q).1
  unfold F_plaitref14_channel
  rw [bif_t (inb_nat h)]
  simp only [getAtE h, countRef_eq (Nat.le_of_lt h) hl, Option.bind_some]
  unfold ruleK
  by_cases hk : 2 ≤ l[i].2.1 ∧ l[i].2.1 ≤ 7
  · rw [hin hk, hca hk]
    have hcap := hcap hk
    rw [wrapI (by omega) (by omega)]
    generalize capO caps l[i].2.2.1 = c at *
    generalize cntE (l.take i) 3 l[i].2.2.1 = n3 at *
    generalize cntE (l.take i) 5 l[i].2.2.1 = n5 at *
    generalize cntE (l.take i) 7 l[i].2.2.1 = n7 at *
    generalize l[i] = e at *
    simp only [cond_true, neg1, tB_dec, tB_bneI, tB_beqI, tB_not, tB_cT, tB_cF, tB_eF, tB_c2]
    refine some_tB ?_
    omega
  · have h3 : (l[i].2.1 != 3) = true := by simp; omega
    rw [bif_t h3]
    by_cases h4 : l[i].2.1 < 5
    · rw [bif_t (decide_eq_true h4), tB_f (by omega)]
    · rw [bif_f (decide_eq_false h4), bif_t (decide_eq_true (by omega)), tB_f (by omega)]
end Go.Proofs.Ytkeolcgggondnaa.VX.VxF_T
