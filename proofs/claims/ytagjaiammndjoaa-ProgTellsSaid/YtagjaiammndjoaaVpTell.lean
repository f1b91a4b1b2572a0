/- Plain laws of prog's second speaker: what is wrong with a program, told again. -/
import Derived.Test.YtagjaiammndjoaaVpProgC
set_option linter.unusedVariables false
set_option linter.unusedSimpArgs false
namespace Go.Proofs.Ytagjaiammndjoaa.VX.VxC_P
open Go.Proofs
theorem rsizes_eq (p : Pg) : F_plaitref06_sizes p = some (!sizesOK p) := by
  unfold F_plaitref06_sizes sizesOK inP
  simp only [Bool.cond_eq_ite, decide_eq_true_eq]
  repeat' split
  all_goals (apply congrArg some; rw [Bool.eq_iff_iff]; simp; omega)
theorem first_any {α β : Type} (z : α) (c : α → Bool) (y : β) : ∀ (l : List α), ((List.range l.length).findSome? fun k => if c (l.getD k z) then some y else none) = if l.any c then some y else none := by
  intro l
  cases h : l.any c with
  | true =>
    obtain ⟨a, ha, hc⟩ := List.any_eq_true.1 h
    obtain ⟨k, hk, e⟩ := mem_getD ha z
    rw [if_pos rfl]
    cases hq : (List.range l.length).findSome? fun k => if c (l.getD k z) then some y else none with
    | none =>
      have := List.findSome?_eq_none_iff.1 hq k (List.mem_range.2 hk)
      rw [e, if_pos hc] at this; cases this
    | some u =>
      obtain ⟨l1, a, l2, h1, h2, h3⟩ := List.findSome?_eq_some_iff.1 hq
      split at h2
      · exact h2.symm
      · cases h2
  | false =>
    rw [if_neg (by simp), List.findSome?_eq_none_iff]
    intro k hk
    rw [if_neg]
    have := List.any_eq_false.1 h (l.getD k z) (by rw [getD_in (List.mem_range.1 hk)]; exact List.getElem_mem _)
    exact this
theorem rtables_eq (p : Pg) (hs : small p) : F_plaitref06_tables p = some (tablesP p) := by
  obtain ⟨s1, s2, s3, s4, s5⟩ := hs
  have h5 := loop_first (f := L_plaitref06_tables_5) p.1.length (fun k => (p.1, (p.1.length : Int), (k : Int), p)) (fun k => (if !inP (p.1.getD k 0) (-1) 3 then some ((-1 : Int), (3 : Int)) else none).map .inl) (.inr p) (by
    intro k hk
    unfold L_plaitref06_tables_5
    simp only
    have hg : getAt (0 : Int) p.1 k = p.1.getD k 0 := getAt_eq _ _ _
    rw [bif_t (by simpa using hk), bif_t (inb_nat hk), toN_nat, hg, wrapI (by omega) (by omega)]
    generalize p.1.getD k 0 = n
    unfold inP
    simp only [show Int.negSucc 0 = -1 from rfl]
    by_cases a : n < -1
    · rw [bif_t (decide_eq_true a), decide_eq_false (by omega)]; rfl
    · rw [bif_f (decide_eq_false a)]
      by_cases b : n > 3
      · rw [bif_t (decide_eq_true b), decide_eq_false (p := n ≤ 3) (by omega), Bool.and_false]; rfl
      · rw [bif_f (decide_eq_false b), decide_eq_true (by omega), decide_eq_true (by omega)]; rfl) (by
    unfold L_plaitref06_tables_5
    simp only
    rw [bif_f (by simp)])
  have h11 := loop_first (f := L_plaitref06_tables_11) p.2.2.2.2.1.length (fun k => (p.2.2.2.2.1, (p.2.2.2.2.1.length : Int), (k : Int), p)) (fun k => (selErr p k).map .inl) (.inr ()) (by
    intro k hk
    unfold L_plaitref06_tables_11
    simp only
    have hg : getAt (([] : List (Bool × Int)), false) p.2.2.2.2.1 k = p.2.2.2.2.1.getD k zSl := getAt_eq _ _ _
    have hm : (p.2.2.2.2.1.getD k zSl).1.length < 1000 := s4 _ (by rw [getD_in hk]; exact List.getElem_mem hk)
    rw [bif_t (by simpa using hk), bif_t (inb_nat hk), toN_nat, hg]
    unfold selErr
    generalize (p.2.2.2.2.1.getD k zSl).1 = cs at *
    by_cases h1 : 4 < cs.length
    · rw [bif_t (decide_eq_true (by omega)), if_pos h1]; rfl
    · rw [bif_f (decide_eq_false (by omega)), if_neg h1]
      have hin := loop_first (f := L_plaitref06_tables_16) cs.length (fun j => ((k : Int), p.2.2.2.2.1, (p.2.2.2.2.1.length : Int), (k : Int), cs, (cs.length : Int), (j : Int), p)) (fun j => (if !inP (cs.getD j (false, 0)).2 0 ((p.1.length : Int) - 1) then some ((k : Int), (3 : Int)) else none).map .inl) (.inr (p.2.2.2.2.1, (p.2.2.2.2.1.length : Int), (k : Int), p)) (by
        intro j hj
        unfold L_plaitref06_tables_16
        simp only
        have hg : getAt (false, (0 : Int)) cs j = cs.getD j (false, 0) := getAt_eq _ _ _
        rw [bif_t (by simpa using hj), bif_t (inb_nat hj), toN_nat, hg, wrapI (by omega) (by omega)]
        generalize cs.getD j (false, 0) = c
        unfold inP
        by_cases a : c.2 < 0
        · rw [bif_t (decide_eq_true a), decide_eq_false (by omega)]; rfl
        · rw [bif_f (decide_eq_false a)]
          by_cases b : c.2 ≥ (p.1.length : Int)
          · rw [bif_t (decide_eq_true b), decide_eq_false (p := c.2 ≤ (p.1.length : Int) - 1) (by omega), Bool.and_false]; rfl
          · rw [bif_f (decide_eq_false b), decide_eq_true (by omega), decide_eq_true (by omega)]; rfl) (by
        unfold L_plaitref06_tables_16
        simp only
        rw [bif_f (by simp)])
      rw [show loop L_plaitref06_tables_16 ((k : Int), p.2.2.2.2.1, (p.2.2.2.2.1.length : Int), (k : Int), cs, (cs.length : Int), (0 : Int), p) = _ from hin, findSome_map, first_any (false, 0) (fun c : Cs => !inP c.2 0 ((p.1.length : Int) - 1))]
      cases cs.any (fun c => !inP c.2 0 ((p.1.length : Int) - 1)) with
      | true => rfl
      | false =>
        simp only [Bool.false_eq_true, if_false, Option.map_none, Option.getD_none, Option.bind_some]
        rw [wrapI (by omega) (by omega)]; rfl) (by
    unfold L_plaitref06_tables_11
    simp only
    rw [bif_f (by simp)])
  unfold F_plaitref06_tables tablesP
  rw [rsizes_eq]
  simp only [Option.bind_some]
  cases hz : sizesOK p with
  | false => rfl
  | true =>
    rw [bif_f (by rfl), if_neg (by simp), show loop L_plaitref06_tables_5 (p.1, (p.1.length : Int), (0 : Int), p) = _ from h5, findSome_map, first_any 0 (fun n : Int => !inP n (-1) 3)]
    cases p.1.any (fun n => !inP n (-1) 3) with
    | true => rfl
    | false =>
      simp only [Bool.false_eq_true, if_false, Option.map_none, Option.getD_none, Option.bind_some]
      rw [show loop L_plaitref06_tables_11 (p.2.2.2.2.1, (p.2.2.2.2.1.length : Int), (0 : Int), p) = _ from h11, findSome_map]
      cases (List.range p.2.2.2.2.1.length).findSome? (selErr p) <;> rfl
theorem rmost_eq (p : Pg) (b : List In) (op : Int) (h0 : 0 ≤ op) (h1 : op ≤ 13) (hb : b.length < 1000) : F_plaitref06_most (p, op, b) = some (mostP p b op) := by
  have hop : op = 0 ∨ op = 1 ∨ op = 2 ∨ op = 3 ∨ op = 4 ∨ op = 5 ∨ op = 6 ∨ op = 7 ∨ op = 8 ∨ op = 9 ∨ op = 10 ∨ op = 11 ∨ op = 12 ∨ op = 13 := by omega
  have w : IntKind.wrap .i64 ((b.length : Int) + 1) = (b.length : Int) + 1 := wrapI (by omega) (by omega)
  unfold F_plaitref06_most
  simp only [w]
  rcases hop with h | h | h | h | h | h | h | h | h | h | h | h | h | h <;> (rw [h]; rfl)
theorem rinstr_eq (p : Pg) (b : List In) (i : In) (hb : b.length < 1000) : F_plaitref06_instr (p, b, i) = some (instrP p b i) := by
  unfold F_plaitref06_instr instrP
  simp only
  by_cases h0 : i.1 < 0
  · rw [bif_t (decide_eq_true h0), if_pos (by unfold inP; rw [decide_eq_false (by omega)]; rfl)]
  · rw [bif_f (decide_eq_false h0)]
    by_cases h1 : i.1 > 13
    · rw [bif_t (decide_eq_true h1), if_pos (by unfold inP; rw [decide_eq_false (p := i.1 ≤ 13) (by omega), Bool.and_false])]
    · have hin : ¬ inP i.1 0 13 = false := by unfold inP; simp; omega
      rw [bif_f (decide_eq_false h1), if_neg hin]
      by_cases h2 : i.2.1 < 0
      · rw [bif_t (decide_eq_true h2), if_pos (.inl (by unfold inP; rw [decide_eq_false (by omega)]; rfl))]
      · rw [bif_f (decide_eq_false h2), rmost_eq p b i.1 (by omega) (by omega) hb]
        simp only [Option.bind_some]
        by_cases h3 : i.2.1 ≥ mostP p b i.1
        · rw [bif_t (decide_eq_true h3), if_pos (.inl (by unfold inP; rw [decide_eq_false (p := i.2.1 ≤ mostP p b i.1 - 1) (by omega), Bool.and_false]))]
        · have e1 : ¬ inP i.2.1 0 (mostP p b i.1 - 1) = false := by unfold inP; simp; omega
          rw [bif_f (decide_eq_false h3)]
          by_cases h4 : i.2.2 < 0
          · rw [bif_t (decide_eq_true h4), if_pos (.inr (by unfold inP; rw [decide_eq_false (by omega)]; rfl))]
          · rw [bif_f (decide_eq_false h4)]
            by_cases h7 : i.1 = 7
            · rw [bif_t (by simpa using h7), if_pos h7]
              by_cases h5 : i.2.2 > (b.length : Int)
              · rw [bif_t (decide_eq_true h5), if_pos (.inr (by unfold inP; rw [decide_eq_false (p := i.2.2 ≤ (b.length : Int)) (by omega), Bool.and_false]))]
              · rw [bif_f (decide_eq_false h5), bif_f (by simpa using h7), if_neg]
                intro e
                rcases e with e | e
                · exact e1 e
                · unfold inP at e; simp at e; omega
            · rw [bif_f (by simpa using h7), bif_t (by simpa using h7), if_neg h7]
              by_cases h5 : i.2.2 = 0
              · rw [bif_f (by simp [h5]), if_neg]
                intro e
                rcases e with e | e
                · exact e1 e
                · rw [h5] at e; cases e
              · rw [bif_t (by simpa using h5), if_pos (.inr (by unfold inP; rw [decide_eq_false (p := i.2.2 ≤ 0) (by omega), Bool.and_false]))]
theorem rwrong_eq (p : Pg) (hs : small p) : F_plaitref06_Wrong p = some (wrongP p) := by
  unfold F_plaitref06_Wrong wrongP
  rw [rtables_eq p hs]
  simp only [Option.bind_some]
  by_cases ht : (tablesP p).2 = 0
  · rw [bif_f (by simpa using ht), if_pos ht]
    obtain ⟨s1, s2, s3, s4, s5⟩ := hs
    have hout := loop_first (f := L_plaitref06_Wrong_6) p.2.2.2.2.2.length (fun b => (p.2.2.2.2.2, (p.2.2.2.2.2.length : Int), (b : Int), p)) (fun b => (blkErr p b).map .inl) (.inr ()) (by
      intro b hb
      unfold L_plaitref06_Wrong_6
      simp only
      have hg : getAt ([] : List (Int × (Int × Int))) p.2.2.2.2.2 b = p.2.2.2.2.2.getD b [] := getAt_eq _ _ _
      have hm : (p.2.2.2.2.2.getD b []).length < 1000 := s5 _ (by rw [getD_in hb]; exact List.getElem_mem hb)
      rw [bif_t (by simpa using hb), bif_t (inb_nat hb), toN_nat, hg]
      unfold blkErr
      generalize p.2.2.2.2.2.getD b [] = bl at *
      by_cases h1 : 24 < bl.length
      · rw [bif_t (decide_eq_true (by omega)), if_pos h1]; rfl
      · rw [bif_f (decide_eq_false (by omega)), if_neg h1]
        have hin := loop_first (f := L_plaitref06_Wrong_11) bl.length (fun k => ((b : Int), bl, p.2.2.2.2.2, (p.2.2.2.2.2.length : Int), (b : Int), bl, (bl.length : Int), (k : Int), p)) (fun k => (if instrP p bl (bl.getD k zIn) = 0 then none else some ((b : Int), (k : Int), instrP p bl (bl.getD k zIn))).map .inl) (.inr (p.2.2.2.2.2, (p.2.2.2.2.2.length : Int), (b : Int), p)) (by
          intro k hk
          unfold L_plaitref06_Wrong_11
          simp only
          have hg : getAt ((0 : Int), ((0 : Int), (0 : Int))) bl k = bl.getD k zIn := getAt_eq _ _ _
          rw [bif_t (by simpa using hk), bif_t (inb_nat hk), toN_nat, hg, rinstr_eq p bl _ hm, wrapI (by omega) (by omega)]
          simp only [Option.bind_some]
          by_cases h2 : instrP p bl (bl.getD k zIn) = 0
          · rw [bif_f (by simp only [h2]; rfl), if_pos h2]; rfl
          · rw [bif_t (by simpa using h2), if_neg h2]; rfl) (by
          unfold L_plaitref06_Wrong_11
          simp only
          rw [bif_f (by simp)])
        rw [show loop L_plaitref06_Wrong_11 ((b : Int), bl, p.2.2.2.2.2, (p.2.2.2.2.2.length : Int), (b : Int), bl, (bl.length : Int), (0 : Int), p) = _ from hin, findSome_map]
        cases (List.range bl.length).findSome? (fun k => if instrP p bl (bl.getD k zIn) = 0 then none else some ((b : Int), (k : Int), instrP p bl (bl.getD k zIn))) with
        | none =>
          simp only [Option.map_none, Option.getD_none, Option.bind_some]
          rw [wrapI (by omega) (by omega)]; rfl
        | some y => rfl) (by
      unfold L_plaitref06_Wrong_6
      simp only
      rw [bif_f (by simp)])
    rw [show loop L_plaitref06_Wrong_6 (p.2.2.2.2.2, (p.2.2.2.2.2.length : Int), (0 : Int), p) = _ from hout, findSome_map]
    cases (List.range p.2.2.2.2.2.length).findSome? (blkErr p) <;> rfl
  · rw [bif_t (by simpa using ht), if_neg ht]; rfl
theorem rcnt_inner (op n : Int) (bs : List (List In)) (nb k : Int) (b : List In) (hb : b.length ≤ 24) (h0 : 0 ≤ n ∧ n ≤ 1000000) :
    loop L_plaitref06_Count_7 (op, n, bs, nb, k, b, (b.length : Int), 0) = some (op, n + cntB op b, bs, nb, k) := by
  have := loop_count (f := L_plaitref06_Count_7) b.length (fun j => (op, n + cntB op (b.take j), bs, nb, k, b, (b.length : Int), (j : Int))) (op, n + cntB op b, bs, nb, k) (fun j hj => by
    have hle : cntB op (b.take j) ≤ 24 := by
      unfold cntB
      have := List.length_filter_le (fun i : In => i.1 == op) (b.take j)
      simp at this ⊢; omega
    unfold L_plaitref06_Count_7
    simp only
    have hg : getAt ((0 : Int), ((0 : Int), (0 : Int))) b j = b[j] := getAtL _ hj
    rw [bif_t (by simpa using hj), bif_t (inb_nat hj), toN_nat, hg, wrapI (n := (j : Int) + 1) (by omega) (by omega), wrapI (n := n + (cntB op (b.take j) : Int) + 1) (by omega) (by omega)]
    have hstep : cntB op (b.take (j + 1)) = cntB op (b.take j) + if b[j].1 == op then 1 else 0 := by
      unfold cntB
      rw [List.take_succ_eq_append_getElem hj, List.filter_append, List.length_append]
      congr 1
      generalize b[j] = x
      cases h : (x.1 == op) <;> simp [h]
    rw [hstep]
    cases h : (b[j].1 == op) with
    | true => rw [cond_true]; simp; omega
    | false => rw [cond_false]; simp) (by
    unfold L_plaitref06_Count_7
    simp only
    rw [bif_f (by simp), List.take_length]) 0 (Nat.zero_le _)
  have h0 : cntB op (b.take 0) = 0 := rfl
  rw [h0] at this
  simpa using this
theorem rcount_eq (p : Pg) (op : Int) (h : RightP p) : F_plaitref06_Count (p, op) = some (cntP p op : Int) := by
  have hl : p.2.2.2.2.2.length ≤ 6 := by
    have := h.sizes
    unfold sizesOK inP at this
    simp only [Bool.and_eq_true, decide_eq_true_eq] at this
    omega
  have hb : ∀ b ∈ p.2.2.2.2.2, b.length ≤ 24 := fun b hb => (h.blks b hb).1
  unfold F_plaitref06_Count cntP
  simp only
  generalize p.2.2.2.2.2 = bs at *
  have := loop_count (f := L_plaitref06_Count_4) bs.length (fun j => (op, (((bs.take j).map (cntB op)).sum : Int), bs, (bs.length : Int), (j : Int))) ((bs.map (cntB op)).sum : Int) (fun j hj => by
    have hle := cnt_le op (bs.take j) (fun b h => hb b (List.mem_of_mem_take h))
    have hlt : (bs.take j).length ≤ 6 := by simp; omega
    unfold L_plaitref06_Count_4
    simp only
    have hg : getAt ([] : List (Int × (Int × Int))) bs j = bs[j] := getAtL _ hj
    rw [bif_t (by simpa using hj), bif_t (inb_nat hj), toN_nat, hg, rcnt_inner op _ bs _ _ bs[j] (hb _ (List.getElem_mem hj)) (by omega)]
    simp only [Option.bind_some]
    rw [wrapI (by omega) (by omega), List.take_succ_eq_append_getElem hj, List.map_append, List.sum_append]
    simp) (by
    unfold L_plaitref06_Count_4
    simp only
    rw [bif_f (by simp), List.take_length]) 0 (Nat.zero_le _)
  rw [show loop L_plaitref06_Count_4 (op, (0 : Int), bs, (bs.length : Int), (0 : Int)) = _ from this]
  rfl
theorem rrows_refl (l : List Int) (hl : l.length < 1000) : F_plaitref01_Rows (l, l) = some true := by
  unfold F_plaitref01_Rows
  rw [bif_f (by simp)]
  have := loop_count (f := L_plaitref01_Rows_5) l.length (fun k => (l, l, (l.length : Int), (k : Int))) (.inr ()) (fun k hk => by
    unfold L_plaitref01_Rows_5
    simp only
    rw [bif_t (by simpa using hk), bif_t (inb_nat hk), bif_t (inb_nat hk), toN_nat, bif_f (by simp), wrapI (by omega) (by omega)]; rfl) (by
    unfold L_plaitref01_Rows_5
    simp only
    rw [bif_f (by simp)]) 0 (Nat.zero_le _)
  rw [show loop L_plaitref01_Rows_5 (l, l, (l.length : Int), (0 : Int)) = _ from this]
  rfl
end Go.Proofs.Ytagjaiammndjoaa.VX.VxC_P
