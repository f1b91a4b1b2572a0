/- ProgTells: the plain form answers true. -/
import Derived.Test.YtagjaiammndjoaaVpReach
set_option linter.unusedVariables false
set_option linter.unusedSimpArgs false
namespace Go.Proofs.Ytagjaiammndjoaa.VX.VxC_P
open Go.Proofs
theorem contains_eq (v : Int) (R : List Int) (hl : R.length < 1000) : F_slices_Contains_int_lent (v, R) = some (R.any (fun a => v == a), R) := by
  unfold F_slices_Contains_int_lent F_slices_Index_int_lent
  have := loop_find (f := L_slices_Index_int_lent_3) R (fun a => v == a) (fun k => (v, (R.length : Int), (k : Int), R)) (fun k => .inl ((k : Int), R)) (.inr R) (by
    intro k hk
    unfold L_slices_Index_int_lent_3
    simp only
    have hg : getAt (0 : Int) R k = R[k] := getAtL _ hk
    rw [bif_t (by simpa using hk), bif_t (inb_nat hk), toN_nat, hg, wrapI (by omega) (by omega)]
    cases h : (v == R[k]) <;> rfl) (by
    unfold L_slices_Index_int_lent_3
    simp only
    rw [bif_f (by simp)])
  simp only
  rw [show loop L_slices_Index_int_lent_3 (v, (R.length : Int), (0 : Int), R) = _ from this, ← List.findIdx?_isSome]
  cases R.findIdx? fun a => v == a with
  | none => rfl
  | some i => simp
/-- What a list of blocks is, under way. -/
structure Good (p : Pg) (R : List Int) : Prop where
  nod : R.Nodup
  mem : ∀ v ∈ R, ∃ t : Nat, v = (t : Int) ∧ Rch p t
  zero : (0 : Int) ∈ R
theorem nodup_inj {α β : Type} {f : α → β} (hf : ∀ a b, f a = f b → a = b) : ∀ {l : List α}, l.Nodup → (l.map f).Nodup
  | [], _ => List.nodup_nil
  | a :: l, h => by
    obtain ⟨h1, h2⟩ := List.nodup_cons.1 h
    rw [List.map_cons, List.nodup_cons]
    refine ⟨fun hm => ?_, nodup_inj hf h2⟩
    obtain ⟨b, hb, e⟩ := List.mem_map.1 hm
    rw [← hf _ _ e] at h1
    exact h1 hb
theorem good_len {p : Pg} (h : RightP p) {R : List Int} (hg : Good p R) : R.length ≤ (blks p).length := by
  have := nodup_len R ((List.range (blks p).length).map fun t : Nat => (t : Int)) hg.nod (fun v hv => by
    obtain ⟨t, rfl, hr⟩ := hg.mem v hv
    exact List.mem_map.2 ⟨t, List.mem_range.2 (rch_lt h hr), rfl⟩)
  simpa using this
def addT (R : List Int) (i : In) : List Int := if i.1 == 9 && !(R.any fun a => i.2.1 == a) then R ++ [i.2.1] else R
theorem any_mem (R : List Int) (v : Int) : R.any (fun a => v == a) = true ↔ v ∈ R := by
  rw [List.any_eq_true]
  constructor
  · rintro ⟨a, ha, e⟩
    rw [beq_iff_eq.1 e]; exact ha
  · intro h; exact ⟨v, h, beq_self_eq_true v⟩
theorem addT_good {p : Pg} (h : RightP p) {R : List Int} (hg : Good p R) {b : Nat} (hb : Rch p b) {i : In} (hi : i ∈ (blks p).getD b []) : Good p (addT R i) := by
  unfold addT
  split
  · rename_i hc
    simp only [Bool.and_eq_true, beq_iff_eq, Bool.not_eq_true'] at hc
    obtain ⟨h9, hn⟩ := hc
    have ht := tgt_ok h hi h9
    have hnm : i.2.1 ∉ R := fun hm => by rw [(any_mem R _).2 hm] at hn; cases hn
    have hr : Rch p i.2.1.toNat := .step hb (by
      unfold edge
      rw [List.any_eq_true]
      refine ⟨i, hi, ?_⟩
      simp only [Bool.and_eq_true, beq_iff_eq]
      exact ⟨h9, by omega⟩)
    refine ⟨?_, fun v hv => ?_, List.mem_append_left _ hg.zero⟩
    · rw [List.nodup_append]
      refine ⟨hg.nod, by simp, fun a ha c hc => ?_⟩
      have := List.mem_singleton.1 hc
      subst this
      intro e; subst e; exact hnm ha
    · rcases List.mem_append.1 hv with hv | hv
      · exact hg.mem v hv
      · have := List.mem_singleton.1 hv
        subst this
        exact ⟨i.2.1.toNat, by omega, hr⟩
  · exact hg
theorem addT_pre (R : List Int) (i : In) : R <+: addT R i := by
  unfold addT
  split
  · exact List.prefix_append _ _
  · exact List.prefix_refl _
theorem addT_hit (R : List Int) (i : In) (h : i.1 = 9) : i.2.1 ∈ addT R i := by
  unfold addT
  split
  · simp
  · rename_i hc
    apply (any_mem R _).1
    cases hq : R.any fun a => i.2.1 == a with
    | true => rfl
    | false => rw [h, hq] at hc; exact absurd rfl hc
def adds (R : List Int) (l : List In) : List Int := l.foldl addT R
theorem adds_good {p : Pg} (h : RightP p) {b : Nat} (hb : Rch p b) : ∀ (l : List In) (R : List Int), Good p R → (∀ i ∈ l, i ∈ (blks p).getD b []) → Good p (adds R l)
  | [], R, hg, _ => hg
  | i :: l, R, hg, hl => adds_good h hb l _ (addT_good h hg hb (hl i (List.mem_cons_self ..))) (fun j hj => hl j (List.mem_cons_of_mem _ hj))
theorem adds_pre : ∀ (l : List In) (R : List Int), R <+: adds R l
  | [], R => List.prefix_refl _
  | i :: l, R => (addT_pre R i).trans (adds_pre l _)
theorem adds_hit : ∀ (l : List In) (R : List Int) (i : In), i ∈ l → i.1 = 9 → i.2.1 ∈ adds R l
  | j :: l, R, i, hi, h9 => by
    rcases List.mem_cons.1 hi with rfl | hi
    · exact (adds_pre l _).subset (addT_hit R i h9)
    · exact adds_hit l _ i hi h9
theorem l9 (p : Pg) (h : RightP p) (b : Nat) (hb : Rch p b) (u : Int) (R : List Int) (hg : Good p R) :
    loop L_prog_Reach_9 (u, (blks p).getD b [], (((blks p).getD b []).length : Int), 0, p, R) = some (u, p, adds R ((blks p).getD b [])) := by
  have hlen : ((blks p).getD b []).length ≤ 24 := by
    have hlt := rch_lt h hb
    exact (h.blks _ (by rw [getD_in hlt]; exact List.getElem_mem hlt)).1
  have hgood : ∀ k, Good p (adds R (((blks p).getD b []).take k)) := fun k => adds_good h hb _ R hg (fun i hi => List.mem_of_mem_take hi)
  generalize hbl : (blks p).getD b [] = bl at *
  refine loop_count (f := L_prog_Reach_9) bl.length (fun k => (u, bl, (bl.length : Int), (k : Int), p, adds R (bl.take k))) _ (fun k hk => ?_) ?_ 0 (Nat.zero_le _)
  · unfold L_prog_Reach_9
    simp only
    have hgk := hgood k
    have hl6 := good_len h hgk
    have hn6 := (nb_ok h).2
    have hg : getAt ((0 : Int), ((0 : Int), (0 : Int))) bl k = bl[k] := getAtL _ hk
    have hst : adds R (bl.take (k + 1)) = addT (adds R (bl.take k)) bl[k] := by
      unfold adds
      rw [List.take_succ_eq_append_getElem hk, List.foldl_append]; rfl
    rw [bif_t (by simpa using hk), bif_t (inb_nat hk), toN_nat, hg, contains_eq _ _ (by omega), wrapI (by omega) (by omega), hst]
    generalize adds R (bl.take k) = Q at *
    generalize bl[k] = i at *
    simp only [Option.bind_some]
    unfold addT
    cases h1 : (i.1 == 9) with
    | false => rfl
    | true =>
      cases h2 : Q.any fun a => i.2.1 == a with
      | true => rfl
      | false =>
        simp only [cond_true, Bool.not_false, Bool.and_self, if_true]
        rw [bif_t (fits_iff.2 (by simp; omega))]; rfl
  · unfold L_prog_Reach_9
    simp only
    rw [bif_f (by simp), List.take_length]
/-- Of a number in a list of blocks: what it starts is in the list. -/
def Clo (p : Pg) (R : List Int) (v : Int) : Prop := ∀ t : Nat, edge p v.toNat t = true → (t : Int) ∈ R
theorem reach_end (p : Pg) (h : RightP p) : ∃ R, loop L_prog_Reach_6 (0, p, [0]) = some R ∧ (Good p R ∧ ∀ v ∈ R, Clo p R v) := by
  refine loop_rule (f := L_prog_Reach_6) (fun x => ∃ (a : Nat) (R : List Int), x = ((a : Int), p, R) ∧ a ≤ R.length ∧ Good p R ∧ ∀ j (hj : j < R.length), j < a → Clo p R R[j]) (fun R => Good p R ∧ ∀ v ∈ R, Clo p R v) (fun x => 7 - x.1.toNat) ?_ _ ⟨0, [0], rfl, by simp, ⟨by simp, fun v hv => ⟨0, by simpa using hv, .zero⟩, by simp⟩, fun j _ hj => by omega⟩
  rintro x ⟨a, R, rfl, ha, hg, hc⟩
  have hl6 := good_len h hg
  have hn6 := (nb_ok h).2
  unfold L_prog_Reach_6
  simp only
  by_cases hlt : a < R.length
  · left
    have hgt : getAt (0 : Int) R a = R[a] := getAtL _ hlt
    obtain ⟨b, hb, hr⟩ := hg.mem R[a] (List.getElem_mem hlt)
    have hbl := rch_lt h hr
    have hg2 : getAt ([] : List (Int × (Int × Int))) p.2.2.2.2.2 b = (blks p).getD b [] := getAt_eq _ _ _
    rw [bif_t (by simpa using hlt), bif_t (inb_nat hlt), toN_nat, hgt, hb, bif_t (inb_nat hbl), toN_nat, hg2, l9 p h b hr _ R hg]
    simp only [Option.bind_some]
    rw [wrapI (by omega) (by omega)]
    have hg' := adds_good h hr ((blks p).getD b []) R hg (fun i hi => hi)
    have hpre := adds_pre ((blks p).getD b []) R
    have hhit := adds_hit ((blks p).getD b []) R
    refine ⟨_, rfl, ⟨a + 1, adds R ((blks p).getD b []), rfl, ?_, hg', fun j hj hja => ?_⟩, ?_⟩
    · have := hpre.length_le
      omega
    · have hjR : j < R.length := by omega
      have hsame : (adds R ((blks p).getD b []))[j] = R[j] := (hpre.getElem hjR).symm
      rw [hsame]
      by_cases e : j < a
      · intro t ht
        exact hpre.subset (hc j hjR e t ht)
      · have : j = a := by omega
        subst this
        intro t ht
        rw [hb] at ht
        unfold edge at ht
        obtain ⟨i, hi, hc⟩ := List.any_eq_true.1 ht
        simp only [Bool.and_eq_true, beq_iff_eq] at hc
        have := hhit i hi hc.1
        rw [hc.2] at this; exact this
    · show 7 - ((a : Int) + 1).toNat < 7 - (a : Int).toNat
      omega
  · right
    rw [bif_f (by simpa using hlt)]
    refine ⟨R, rfl, hg, fun v hv => ?_⟩
    obtain ⟨j, hj, e⟩ := List.mem_iff_getElem.1 hv
    rw [← e]
    exact hc j hj (by omega)
theorem reach_mem {p : Pg} (h : RightP p) {R : List Int} (hg : Good p R) (hc : ∀ v ∈ R, Clo p R v) (v : Int) : v ∈ R ↔ ∃ t : Nat, v = (t : Int) ∧ Rch p t := by
  refine ⟨hg.mem v, ?_⟩
  rintro ⟨t, rfl, hr⟩
  induction hr with
  | zero => exact hg.zero
  | step _ he ih => exact hc _ ih _ he
theorem outs_nodup (n : Nat) (bs : List Bool) : (outs n bs).Nodup := by
  unfold outs
  exact nodup_inj (fun a b e => by omega) (List.Pairwise.filter _ List.nodup_range)
theorem outs_sorted (n : Nat) (bs : List Bool) : (outs n bs).Pairwise (fun a b => decide (a ≤ b) = true) := by
  unfold outs
  rw [List.pairwise_map]
  refine List.Pairwise.filter _ ?_
  refine List.Pairwise.imp (R := fun a b : Nat => a < b) (fun hab => ?_) List.pairwise_lt_range
  exact decide_eq_true (by omega)
theorem sort_outs {p : Pg} (h : RightP p) {R : List Int} (hg : Good p R) (hc : ∀ v ∈ R, Clo p R v) : sortI R = outs (blks p).length (rds p (blks p).length (ini (blks p).length)) := by
  unfold sortI
  refine List.Perm.eq_of_pairwise (le := fun a b => decide (a ≤ b) = true) (fun a b _ _ h1 h2 => ?_) (List.pairwise_mergeSort (fun a b c h1 h2 => ?_) (fun a b => ?_) R) (outs_sorted _ _) ((List.mergeSort_perm R _).trans ((List.perm_ext_iff_of_nodup hg.nod (outs_nodup _ _)).2 fun v => ?_))
  · have h1 := of_decide_eq_true h1
    have h2 := of_decide_eq_true h2
    omega
  · have h1 := of_decide_eq_true h1
    have h2 := of_decide_eq_true h2
    exact decide_eq_true (by omega)
  · rw [Bool.or_eq_true, decide_eq_true_eq, decide_eq_true_eq]; omega
  · rw [reach_mem h hg hc]
    unfold outs
    rw [List.mem_map]
    constructor
    · rintro ⟨t, rfl, hr⟩
      exact ⟨t, List.mem_filter.2 ⟨List.mem_range.2 (rch_lt h hr), (rds_rch h t).2 hr⟩, rfl⟩
    · rintro ⟨t, ht, rfl⟩
      exact ⟨t, rfl, (rds_rch h t).1 (List.mem_filter.1 ht).2⟩
theorem sortRow_all (R : List Int) : sortRow R 0 R.length = sortI R := by
  unfold sortRow over cut
  have : (sortI (List.take R.length (List.drop 0 R))) = sortI R := by rw [List.drop_zero, List.take_length]
  have h2 : (sortI R).take R.length = sortI R := List.take_of_length_le (by rw [sortI_len]; omega)
  rw [this, h2]
  simp
theorem reach_eq (p : Pg) (hs : small p) : F_prog_Reach p = some (if rightP p then (outs (blks p).length (rds p (blks p).length (ini (blks p).length)), 0) else ([], 1)) := by
  unfold F_prog_Reach
  rw [pRight_eq p hs]
  simp only [Option.bind_some]
  by_cases h : rightP p
  · have hr := (rightP_iff p).1 h
    obtain ⟨R, h1, h2, h3⟩ := reach_end p hr
    have hl6 := good_len hr h2
    have hn6 := (nb_ok hr).2
    rw [decide_eq_true h, if_pos h, bif_f (by rfl), h1]
    simp only [Option.bind_some]
    rw [bif_t (fits_iff.2 (by omega)), sortRow_all, sort_outs hr h2 h3]
  · rw [decide_eq_false h, if_neg h]; rfl
theorem progTells (p0 : Pg) (op : Int) : F_plaitlaw06_ProgTells (p0, op) = some true := by
  unfold F_plaitlaw06_ProgTells
  rw [pfew_eq p0]
  have hs := fewP_small p0
  generalize fewP p0 = p at *
  simp only [Option.bind_some]
  rw [wrong_eq p hs, reach_eq p hs, count_eq p op hs, rwrong_eq p hs]
  simp only [Option.bind_some]
  rw [bif_f (by simp), bif_f (by simp), bif_f (by simp), pRight_eq p hs]
  simp only [Option.bind_some]
  by_cases h : rightP p
  · have hw : (wrongP p).2.2 = 0 := h
    have hr := (rightP_iff p).1 h
    have ho := outs_len (blks p).length (rds p (blks p).length (ini (blks p).length))
    have hn6 := (nb_ok hr).2
    rw [decide_eq_true h, if_pos h, if_pos h, hw, bif_f (by rfl), palive_eq]
    simp only [Option.bind_some]
    rw [bif_f (by rfl), bif_f (by rfl), bif_f (by rfl), rreach_eq p hs]
    simp only [Option.bind_some]
    rw [rrows_refl _ (by omega)]
    simp only [Option.bind_some]
    rw [bif_f (by rfl)]
    by_cases a : op < 0
    · rw [bif_t (decide_eq_true a), if_neg (by unfold inP; simp; omega)]; rfl
    · rw [bif_f (decide_eq_false a)]
      by_cases b : op > 13
      · rw [bif_t (decide_eq_true b), if_neg (by unfold inP; simp; omega)]; rfl
      · rw [bif_f (decide_eq_false b), if_pos (by unfold inP; simp; omega), rcount_eq p op hr]
        simp
  · have hw : ¬ (wrongP p).2.2 = 0 := h
    rw [decide_eq_false h, if_neg h, if_neg h, beq_eq_false_iff_ne.2 hw, bif_f (by rfl), palive_eq]
    simp only [Option.bind_some]
    rw [bif_f (by rfl), bif_t (by simpa using hw)]
    rfl
theorem progTells_law (x : HL [.pair (.slice (.int .i64)) (.pair (.int .i64) (.pair (.int .i64) (.pair (.int .i64) (.pair (.slice (.pair (.slice (.pair .bool (.int .i64))) .bool)) (.slice (.slice (.pair (.int .i64) (.pair (.int .i64) (.int .i64))))))))), .int .i64]) (h : wfHL [.pair (.slice (.int .i64)) (.pair (.int .i64) (.pair (.int .i64) (.pair (.int .i64) (.pair (.slice (.pair (.slice (.pair .bool (.int .i64))) .bool)) (.slice (.slice (.pair (.int .i64) (.pair (.int .i64) (.int .i64))))))))), .int .i64] x) : F_plaitlaw06_ProgTells x = some true := progTells x.1 x.2
end Go.Proofs.Ytagjaiammndjoaa.VX.VxC_P
