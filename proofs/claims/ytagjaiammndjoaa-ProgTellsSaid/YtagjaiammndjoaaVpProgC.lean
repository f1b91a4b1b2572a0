/- ProgCounts: the plain form answers true. -/
import Derived.Test.YtagjaiammndjoaaVpProg
set_option linter.unusedVariables false
set_option linter.unusedSimpArgs false
namespace Go.Proofs.Ytagjaiammndjoaa.VX.VxC_P
open Go.Proofs
def cutS (s : Sl) : Sl := (s.1.take 6, s.2)
def fewP (p : Pg) : Pg := (p.1.take 6, p.2.1, p.2.2.1, p.2.2.2.1, (p.2.2.2.2.1.take 6).map cutS, (p.2.2.2.2.2.take 8).map fun b => b.take 30)
theorem fewP_small (p : Pg) : small (fewP p) := by
  refine ⟨by simp [fewP]; omega, by simp [fewP]; omega, by simp [fewP]; omega, fun s hs => ?_, fun b hb => ?_⟩
  · obtain ⟨t, _, rfl⟩ := List.mem_map.1 hs
    simp [cutS]; omega
  · obtain ⟨t, _, rfl⟩ := List.mem_map.1 hb
    simp; omega
theorem pfew_eq (p : Pg) : F_plaitlaw06_few p = some (fewP p) := by
  have h5 : ∀ (q : Pg) (a b c : Int) (l : List Sl), l.length ≤ 6 → loop L_plaitlaw06_few_5 (l, (l.length : Int), 0, q, a, b, c, []) = some (q, a, b, c, l.map cutS) := by
    intro q a b c l hl
    refine (loop_count (f := L_plaitlaw06_few_5) l.length (fun k => (l, (l.length : Int), (k : Int), q, a, b, c, (l.take k).map cutS)) _ (fun k hk => ?_) ?_ 0 (Nat.zero_le _))
    · unfold L_plaitlaw06_few_5
      simp only
      have hg : getAt (([] : List (Bool × Int)), false) l k = l[k] := getAtL _ hk
      rw [bif_t (by simpa using hk), bif_t (inb_nat hk), toN_nat, hg, bif_t (sub3L.2 (by omega)), cut_min _ 6 6 rfl, wrapI (by omega) (by omega), bif_t (fits_iff.2 (by simp; omega)), List.take_succ_eq_append_getElem hk, List.map_append]
      rfl
    · unfold L_plaitlaw06_few_5
      simp only
      rw [bif_f (by simp), List.take_length]
  have h12 : ∀ (q : Pg) (a b c : Int) (s : List Sl) (l : List (List In)), l.length ≤ 8 → loop L_plaitlaw06_few_12 (l, (l.length : Int), 0, q, a, b, c, s, []) = some (q, a, b, c, s, l.map fun b => b.take 30) := by
    intro q a b c s l hl
    refine (loop_count (f := L_plaitlaw06_few_12) l.length (fun k => (l, (l.length : Int), (k : Int), q, a, b, c, s, (l.take k).map fun b => b.take 30)) _ (fun k hk => ?_) ?_ 0 (Nat.zero_le _))
    · unfold L_plaitlaw06_few_12
      simp only
      have hg : getAt ([] : List (Int × (Int × Int))) l k = l[k] := getAtL _ hk
      rw [bif_t (by simpa using hk), bif_t (inb_nat hk), toN_nat, hg, bif_t (sub3L.2 (by omega)), cut_min _ 30 30 rfl, wrapI (by omega) (by omega), bif_t (fits_iff.2 (by simp; omega)), List.take_succ_eq_append_getElem hk, List.map_append]
      rfl
    · unfold L_plaitlaw06_few_12
      simp only
      rw [bif_f (by simp), List.take_length]
  unfold F_plaitlaw06_few
  rw [bif_t (sub3L.2 (by omega)), bif_t (sub3L.2 (by omega)), cut_min _ 6 6 rfl, cut_min _ 6 6 rfl, h5 _ _ _ _ _ (by simp; omega)]
  simp only [Option.bind_some]
  rw [bif_t (sub3L.2 (by omega)), cut_min _ 8 8 rfl, h12 _ _ _ _ _ _ (by simp; omega)]
  rfl
theorem palive_eq : F_plaitlaw06_alive () = some true := by
  unfold F_plaitlaw06_alive
  rw [wrong_eq _ ⟨by simp, by simp, by simp, by simp, by simp⟩, pRight_eq _ ⟨by simp, by simp, by simp, by simp, by simp⟩]
  rfl
theorem sum_add {α : Type} (f g : α → Nat) : ∀ (l : List α), (l.map fun x => f x + g x).sum = (l.map f).sum + (l.map g).sum
  | [] => rfl
  | a :: l => by
    have := sum_add f g l
    simp only [List.map_cons, List.sum_cons]
    omega
theorem ind14 : ∀ v, v < 14 → ((List.range 14).map fun (op : Nat) => if v = op then 1 else 0).sum = 1 := by decide
/-- Of each op. -/
theorem cntB_sum (b : List In) (h : ∀ i ∈ b, 0 ≤ i.1 ∧ i.1 ≤ 13) : ((List.range 14).map fun (op : Nat) => cntB (op : Int) b).sum = b.length := by
  induction b with
  | nil => rfl
  | cons i b ih =>
    have h1 := ih (fun i hi => h i (List.mem_cons_of_mem _ hi))
    have h2 := h i (List.mem_cons_self ..)
    have hc : ∀ op : Nat, cntB (op : Int) (i :: b) = (if i.1.toNat = op then 1 else 0) + cntB (op : Int) b := by
      intro op
      unfold cntB
      rw [List.filter_cons]
      by_cases e : i.1.toNat = op
      · rw [if_pos (by simp; omega), if_pos e]; simp; omega
      · rw [if_neg (by simp; omega), if_neg e]; simp
    rw [show (fun (op : Nat) => cntB (op : Int) (i :: b)) = fun (op : Nat) => (if i.1.toNat = op then 1 else 0) + cntB (op : Int) b from funext hc, sum_add, h1, ind14 _ (by omega), List.length_cons]
    omega
theorem cntP_sum (bs : List (List In)) (h : ∀ b ∈ bs, ∀ i ∈ b, 0 ≤ i.1 ∧ i.1 ≤ 13) : ((List.range 14).map fun (op : Nat) => (bs.map (cntB (op : Int))).sum).sum = (bs.map List.length).sum := by
  induction bs with
  | nil => rfl
  | cons b bs ih =>
    have h1 := ih (fun b hb => h b (List.mem_cons_of_mem _ hb))
    have h2 := cntB_sum b (h b (List.mem_cons_self ..))
    simp only [List.map_cons, List.sum_cons]
    rw [sum_add, h1, h2]
def upTo (p : Pg) (k : Nat) : Nat := ((List.range k).map fun (op : Nat) => cntP p (op : Int)).sum
theorem upTo_succ (p : Pg) (k : Nat) : upTo p (k + 1) = upTo p k + cntP p (k : Int) := by
  unfold upTo
  rw [List.range_succ, List.map_append, List.sum_append]
  simp
theorem pc8 (p : Pg) (hs : small p) (h : RightP p) : loop L_plaitlaw06_ProgCounts_8 (0, 0, 0, p) = some (.inr ((upTo p 14 : Int), 0, p)) := by
  have h6 : p.2.2.2.2.2.length ≤ 6 := by
    have := h.sizes
    unfold sizesOK inP at this
    simp only [Bool.and_eq_true, decide_eq_true_eq] at this
    omega
  have hc : ∀ op : Int, cntP p op ≤ 144 := fun op => by
    have := cnt_le op p.2.2.2.2.2 (fun b hb => (h.blks b hb).1)
    unfold cntP; omega
  have hu : ∀ k, upTo p k ≤ 144 * k := by
    intro k
    induction k with
    | zero => simp [upTo]
    | succ k ih => rw [upTo_succ]; have := hc k; omega
  show loop L_plaitlaw06_ProgCounts_8 ((upTo p 0 : Nat), 0, ((0 : Nat) : Int), p) = _
  refine loop_count (f := L_plaitlaw06_ProgCounts_8) 14 (fun k => ((upTo p k : Int), 0, (k : Int), p)) _ (fun k hk => ?_) ?_ 0 (Nat.zero_le _)
  · unfold L_plaitlaw06_ProgCounts_8
    simp only
    have := hu k
    have := hc k
    rw [bif_t (decide_eq_true (by omega)), count_eq p _ hs, if_pos ((rightP_iff p).2 h), if_pos (by unfold inP; simp; omega)]
    simp only [Option.bind_some]
    rw [bif_f (by rfl), bif_f (decide_eq_false (by omega)), wrapI (n := (k : Int) + 1) (by omega) (by omega), wrapI (by omega) (by omega), upTo_succ]
    rfl
  · unfold L_plaitlaw06_ProgCounts_8
    rfl
theorem pc20 (s al : Int) (b : List In) (bs : List (List In)) (nb k : Int) (p : Pg) (hs : small p) (hn : okN p) (hb : b.length ≤ 24) (hi : ∀ i ∈ b, instrP p b i = 0) :
    loop L_plaitlaw06_ProgCounts_20 (s, al, b, bs, nb, k, b, (b.length : Int), 0, p) = some (.inr (s, al, bs, nb, k, p)) := by
  refine loop_count (f := L_plaitlaw06_ProgCounts_20) b.length (fun j => (s, al, b, bs, nb, k, b, (b.length : Int), (j : Int), p)) _ (fun j hj => ?_) ?_ 0 (Nat.zero_le _)
  · unfold L_plaitlaw06_ProgCounts_20
    simp only
    have hg : getAt ((0 : Int), ((0 : Int), (0 : Int))) b j = b[j] := getAtL _ hj
    have h := hi b[j] (List.getElem_mem hj)
    rw [bif_t (by simpa using hj), bif_t (inb_nat hj), toN_nat, hg, wrapI (by omega) (by omega)]
    generalize b[j] = i at *
    unfold instrP at h
    have h0 : inP i.1 0 13 = true := by
      cases hq : inP i.1 0 13 with
      | true => rfl
      | false => rw [hq, if_pos rfl] at h; cases h
    rw [h0, if_neg (by simp)] at h
    have h1 : ¬(inP i.2.1 0 (mostP p b i.1 - 1) = false ∨ inP i.2.2 0 (if i.1 = 7 then (b.length : Int) else 0) = false) := fun e => by rw [if_pos e] at h; cases h
    have h2 : 0 ≤ i.2.1 ∧ i.2.1 ≤ mostP p b i.1 - 1 := by
      cases hq : inP i.2.1 0 (mostP p b i.1 - 1) with
      | false => exact absurd (.inl hq) h1
      | true => unfold inP at hq; simpa using hq
    have h3 : 0 ≤ i.2.2 := by
      cases hq : inP i.2.2 0 (if i.1 = 7 then (b.length : Int) else 0) with
      | false => exact absurd (.inr hq) h1
      | true => unfold inP at hq; simp only [Bool.and_eq_true, decide_eq_true_eq] at hq; exact hq.1
    have n1 : ¬ i.2.1 < 0 := by omega
    have n2 : ¬ i.2.2 < 0 := by omega
    have e1 : i.1 = 1 → i.2.1 < p.1.length := fun e => by unfold mostP at h2; rw [e, if_neg (by decide), if_pos rfl] at h2; omega
    have e9 : i.1 = 9 → i.2.1 < p.2.2.2.2.2.length := fun e => by
      unfold mostP at h2
      rw [e] at h2
      simp only [show ¬ (9 : Int) = 0 by decide, show ¬ (9 : Int) = 1 by decide, show ¬ (9 : Int) = 2 by decide, show ¬ (9 : Int) = 3 by decide, show ¬ (9 : Int) = 4 by decide, show ¬ (9 : Int) = 5 by decide, show ¬ (9 : Int) = 6 by decide, show ¬ (9 : Int) = 7 by decide, show ¬ (9 : Int) = 8 by decide, if_false, if_true] at h2
      omega
    have e12 : i.1 = 12 → i.2.1 ≤ b.length := fun e => by
      unfold mostP at h2
      rw [e] at h2
      simp only [show ¬ (12 : Int) = 0 by decide, show ¬ (12 : Int) = 1 by decide, show ¬ (12 : Int) = 2 by decide, show ¬ (12 : Int) = 3 by decide, show ¬ (12 : Int) = 4 by decide, show ¬ (12 : Int) = 5 by decide, show ¬ (12 : Int) = 6 by decide, show ¬ (12 : Int) = 7 by decide, show ¬ (12 : Int) = 8 by decide, show ¬ (12 : Int) = 9 by decide, show ¬ (12 : Int) = 10 by decide, show ¬ (12 : Int) = 11 by decide, if_false] at h2
      omega
    by_cases c1 : i.1 = 1
    · have c9 : ¬ i.1 = 9 := by omega
      have c12 : ¬ i.1 = 12 := by omega
      have := e1 c1
      rw [bif_t (by simpa using c1), bif_f (decide_eq_false (by omega)), bif_f (by simpa using c9), bif_f (by simpa using c12), bif_f (decide_eq_false n1), bif_f (decide_eq_false n2)]; rfl
    · rw [bif_f (by simpa using c1)]
      by_cases c9 : i.1 = 9
      · have c12 : ¬ i.1 = 12 := by omega
        have := e9 c9
        rw [bif_t (by simpa using c9), bif_f (decide_eq_false (by omega)), bif_f (by simpa using c12), bif_f (decide_eq_false n1), bif_f (decide_eq_false n2)]; rfl
      · rw [bif_f (by simpa using c9)]
        by_cases c12 : i.1 = 12
        · have := e12 c12
          rw [bif_t (by simpa using c12), bif_f (decide_eq_false (by omega)), bif_f (decide_eq_false n1), bif_f (decide_eq_false n2)]; rfl
        · rw [bif_f (by simpa using c12), bif_f (decide_eq_false n1), bif_f (decide_eq_false n2)]; rfl
  · unfold L_plaitlaw06_ProgCounts_20
    simp only
    rw [bif_f (by simp)]
theorem sum24 : ∀ (l : List (List In)), (∀ b ∈ l, b.length ≤ 24) → (l.map List.length).sum ≤ 24 * l.length
  | [], _ => by simp
  | b :: l, h => by
    have h1 := sum24 l (fun b hb => h b (List.mem_cons_of_mem _ hb))
    have h2 := h b (List.mem_cons_self ..)
    simp only [List.map_cons, List.sum_cons, List.length_cons]
    omega
theorem pc16 (s : Int) (p : Pg) (hs : small p) (h : RightP p) : loop L_plaitlaw06_ProgCounts_16 (s, 0, p.2.2.2.2.2, (p.2.2.2.2.2.length : Int), 0, p) = some (.inr (s, ((p.2.2.2.2.2.map List.length).sum : Int))) := by
  have h6 : p.2.2.2.2.2.length ≤ 6 := by
    have := h.sizes
    unfold sizesOK inP at this
    simp only [Bool.and_eq_true, decide_eq_true_eq] at this
    omega
  have := loop_count (f := L_plaitlaw06_ProgCounts_16) p.2.2.2.2.2.length (fun j => (s, (((p.2.2.2.2.2.take j).map List.length).sum : Int), p.2.2.2.2.2, (p.2.2.2.2.2.length : Int), (j : Int), p)) (.inr (s, ((p.2.2.2.2.2.map List.length).sum : Int))) (fun j hj => by
    have hle := sum24 (p.2.2.2.2.2.take j) (fun b hb => (h.blks b (List.mem_of_mem_take hb)).1)
    have hlt : (p.2.2.2.2.2.take j).length ≤ 6 := by simp; omega
    obtain ⟨q1, q2⟩ := h.blks _ (List.getElem_mem hj)
    unfold L_plaitlaw06_ProgCounts_16
    simp only
    have hg : getAt ([] : List (Int × (Int × Int))) p.2.2.2.2.2 j = p.2.2.2.2.2[j] := getAtL _ hj
    rw [bif_t (by simpa using hj), bif_t (inb_nat hj), toN_nat, hg, pc20 _ _ _ _ _ _ p hs (sizes_okN h.sizes) q1 q2]
    simp only [Option.bind_some]
    rw [wrapI (n := (j : Int) + 1) (by omega) (by omega), wrapI (by omega) (by omega), List.take_succ_eq_append_getElem hj, List.map_append, List.sum_append]
    simp) (by
    unfold L_plaitlaw06_ProgCounts_16
    simp only
    rw [bif_f (by simp), List.take_length]) 0 (Nat.zero_le _)
  simpa using this
theorem progCounts (p0 : Pg) : F_plaitlaw06_ProgCounts p0 = some true := by
  unfold F_plaitlaw06_ProgCounts
  rw [pfew_eq p0]
  have hs := fewP_small p0
  generalize fewP p0 = p at *
  simp only [Option.bind_some]
  rw [pRight_eq p hs, palive_eq]
  simp only [Option.bind_some]
  by_cases h : rightP p
  · have hr := (rightP_iff p).1 h
    rw [decide_eq_true h, bif_f (by rfl), pc8 p hs hr]
    simp only [Option.bind_some]
    rw [pc16 _ p hs hr]
    simp only [Option.bind_some, cond_true]
    have : (upTo p 14 : Int) = ((p.2.2.2.2.2.map List.length).sum : Int) := by
      unfold upTo cntP
      rw [cntP_sum p.2.2.2.2.2 (fun b hb i hi => by
        have := (hr.blks b hb).2 i hi
        unfold instrP at this
        cases hq : inP i.1 0 13 with
        | false => rw [hq, if_pos rfl] at this; cases this
        | true => unfold inP at hq; simpa using hq)]
    rw [this]; simp
  · rw [decide_eq_false h, bif_t (by rfl), count_eq p _ hs, if_neg h]
    rfl
theorem progCounts_law (x : HL [.pair (.slice (.int .i64)) (.pair (.int .i64) (.pair (.int .i64) (.pair (.int .i64) (.pair (.slice (.pair (.slice (.pair .bool (.int .i64))) .bool)) (.slice (.slice (.pair (.int .i64) (.pair (.int .i64) (.int .i64)))))))))]) (h : wfHL [.pair (.slice (.int .i64)) (.pair (.int .i64) (.pair (.int .i64) (.pair (.int .i64) (.pair (.slice (.pair (.slice (.pair .bool (.int .i64))) .bool)) (.slice (.slice (.pair (.int .i64) (.pair (.int .i64) (.int .i64)))))))))] x) : F_plaitlaw06_ProgCounts x = some true := progCounts x
end Go.Proofs.Ytagjaiammndjoaa.VX.VxC_P
