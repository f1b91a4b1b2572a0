/- Plain laws of prog: what blocks are reached. -/
import Derived.Test.YtagjaiammndjoaaVpTell
set_option linter.unusedVariables false
set_option linter.unusedSimpArgs false
namespace Go.Proofs.Ytagjaiammndjoaa.VX.VxC_P
open Go.Proofs
abbrev blks (p : Pg) : List (List In) := p.2.2.2.2.2
def edge (p : Pg) (b t : Nat) : Bool := ((blks p).getD b []).any fun i => i.1 == 9 && i.2.1 == (t : Int)
inductive Rch (p : Pg) : Nat → Prop
  | zero : Rch p 0
  | step {b t : Nat} : Rch p b → edge p b t = true → Rch p t
theorem nb_ok {p : Pg} (h : RightP p) : 1 ≤ (blks p).length ∧ (blks p).length ≤ 6 := by
  have := h.sizes
  unfold sizesOK inP at this
  simp only [Bool.and_eq_true, decide_eq_true_eq] at this
  unfold blks
  omega
theorem blk_mem {p : Pg} {b : Nat} {i : In} (h : i ∈ (blks p).getD b []) : (blks p).getD b [] ∈ blks p ∧ b < (blks p).length := by
  by_cases hb : b < (blks p).length
  · exact ⟨by rw [getD_in hb]; exact List.getElem_mem hb, hb⟩
  · have : (blks p).getD b [] = [] := by simp [List.getD, hb]
    rw [this] at h; cases h
theorem tgt_ok {p : Pg} (h : RightP p) {b : Nat} {i : In} (hi : i ∈ (blks p).getD b []) (h9 : i.1 = 9) : 0 ≤ i.2.1 ∧ i.2.1 < (blks p).length := by
  obtain ⟨h1, h2⟩ := blk_mem hi
  have := (h.blks _ h1).2 i hi
  unfold instrP at this
  have h0 : inP i.1 0 13 = true := by
    cases hq : inP i.1 0 13 with
    | true => rfl
    | false => rw [hq, if_pos rfl] at this; cases this
  rw [h0, if_neg (by simp)] at this
  generalize hbl : (blks p).getD b [] = bl at *
  have h1 : ¬(inP i.2.1 0 (mostP p bl i.1 - 1) = false ∨ inP i.2.2 0 (if i.1 = 7 then (bl.length : Int) else 0) = false) := fun e => by rw [if_pos e] at this; cases this
  have h2 : 0 ≤ i.2.1 ∧ i.2.1 ≤ mostP p bl i.1 - 1 := by
    cases hq : inP i.2.1 0 (mostP p bl i.1 - 1) with
    | false => exact absurd (.inl hq) h1
    | true => unfold inP at hq; simpa using hq
  have h3 : mostP p bl i.1 = (blks p).length := by rw [h9]; rfl
  rw [h3] at h2
  omega
theorem edge_lt {p : Pg} (h : RightP p) {b t : Nat} (he : edge p b t = true) : t < (blks p).length := by
  unfold edge at he
  obtain ⟨i, hi, hc⟩ := List.any_eq_true.1 he
  simp only [Bool.and_eq_true, beq_iff_eq] at hc
  have := tgt_ok h hi hc.1
  omega
theorem rch_lt {p : Pg} (h : RightP p) {t : Nat} (hr : Rch p t) : t < (blks p).length := by
  cases hr with
  | zero => have := (nb_ok h).1; omega
  | step _ he => exact edge_lt h he
/- The second speaker: rounds over all pairs. -/
def st1 (p : Pg) (b : Nat) (bs : List Bool) (t : Nat) : List Bool := if bs.getD b false && edge p b t then bs.set t true else bs
def in1 (p : Pg) (k b : Nat) (bs : List Bool) : List Bool := (List.range k).foldl (st1 p b) bs
def rd1 (p : Pg) (k : Nat) (bs : List Bool) : List Bool := (List.range k).foldl (fun bs b => in1 p (blks p).length b bs) bs
def rds (p : Pg) : Nat → List Bool → List Bool
  | 0, bs => bs
  | k + 1, bs => rd1 p (blks p).length (rds p k bs)
theorem st1_len (p : Pg) (b t : Nat) (bs : List Bool) : (st1 p b bs t).length = bs.length := by unfold st1; split <;> simp
theorem in1_succ (p : Pg) (k b : Nat) (bs : List Bool) : in1 p (k + 1) b bs = st1 p b (in1 p k b bs) k := by
  unfold in1; rw [List.range_succ, List.foldl_append]; rfl
theorem rd1_succ (p : Pg) (k : Nat) (bs : List Bool) : rd1 p (k + 1) bs = in1 p (blks p).length k (rd1 p k bs) := by
  unfold rd1; rw [List.range_succ, List.foldl_append]; rfl
theorem in1_len (p : Pg) (b : Nat) (bs : List Bool) : ∀ k, (in1 p k b bs).length = bs.length
  | 0 => rfl
  | k + 1 => by rw [in1_succ, st1_len, in1_len p b bs k]
theorem rd1_len (p : Pg) (bs : List Bool) : ∀ k, (rd1 p k bs).length = bs.length
  | 0 => rfl
  | k + 1 => by rw [rd1_succ, in1_len, rd1_len p bs k]
theorem rds_len (p : Pg) (bs : List Bool) : ∀ k, (rds p k bs).length = bs.length
  | 0 => rfl
  | k + 1 => by unfold rds; rw [rd1_len, rds_len p bs k]
theorem set_get (bs : List Bool) (t u : Nat) : (bs.set t true).getD u false = if t = u ∧ t < bs.length then true else bs.getD u false := by
  rw [List.getD, List.getD, List.getElem?_set]
  by_cases h : t = u
  · subst h
    by_cases h2 : t < bs.length
    · simp [h2]
    · simp [h2]
  · simp [h]
theorem starts_eq (p : Pg) (b t : Nat) (hb : b < (blks p).length) (hs : small p) : F_plaitref06_starts (p, (b : Int), (t : Int)) = some (edge p b t) := by
  unfold F_plaitref06_starts edge
  simp only
  have hg : getAt ([] : List (Int × (Int × Int))) p.2.2.2.2.2 b = (blks p).getD b [] := getAt_eq _ _ _
  have hm : ((blks p).getD b []).length < 1000 := hs.2.2.2.2 _ (by rw [getD_in hb]; exact List.getElem_mem hb)
  rw [bif_t (inb_nat hb), toN_nat, hg]
  generalize (blks p).getD b [] = bl at *
  have := loop_find (f := L_plaitref06_starts_3) bl (fun i => i.1 == 9 && i.2.1 == (t : Int)) (fun k => ((t : Int), bl, (bl.length : Int), (k : Int))) (fun k => .inl true) (.inr ()) (by
    intro k hk
    unfold L_plaitref06_starts_3
    simp only
    have hg : getAt ((0 : Int), ((0 : Int), (0 : Int))) bl k = bl[k] := getAtL _ hk
    rw [bif_t (by simpa using hk), bif_t (inb_nat hk), toN_nat, hg, wrapI (by omega) (by omega)]
    generalize bl[k] = i
    cases h : (i.1 == 9) <;> cases h2 : (i.2.1 == (t : Int)) <;> rfl) (by
    unfold L_plaitref06_starts_3
    simp only
    rw [bif_f (by simp)])
  rw [show loop L_plaitref06_starts_3 ((t : Int), bl, (bl.length : Int), (0 : Int)) = _ from this, ← List.findIdx?_isSome]
  cases bl.findIdx? fun i => i.1 == 9 && i.2.1 == (t : Int) <;> rfl
theorem l13 (p : Pg) (hs : small p) (b : Nat) (hb : b < (blks p).length) (u v w : Int) (bs : List Bool) (hl : bs.length = (blks p).length) :
    loop L_plaitref06_Reach_13 ((b : Int), u, v, w, (b : Int), ((blks p).length : Int), 0, p, bs) = some (u, v, w, (b : Int), p, in1 p (blks p).length b bs) := by
  have h1000 : (blks p).length < 1000 := hs.2.2.1
  refine loop_count (f := L_plaitref06_Reach_13) (blks p).length (fun k => ((b : Int), u, v, w, (b : Int), ((blks p).length : Int), (k : Int), p, in1 p k b bs)) _ (fun k hk => ?_) ?_ 0 (Nat.zero_le _)
  · unfold L_plaitref06_Reach_13
    simp only
    have hln := in1_len p b bs k
    have hg : getAt false (in1 p k b bs) b = (in1 p k b bs).getD b false := getAt_eq _ _ _
    rw [bif_t (by simpa using hk), bif_t (inb_nat (by omega)), toN_nat, toN_nat, hg, starts_eq p b k hb hs, wrapI (by omega) (by omega), in1_succ]
    simp only [Option.bind_some]
    unfold st1
    cases h1 : (in1 p k b bs).getD b false with
    | false => rfl
    | true =>
      cases h2 : edge p b k with
      | false => rfl
      | true =>
        simp only [cond_true, Bool.and_self, if_true]
        rw [bif_t (inb_nat (by omega))]; rfl
  · unfold L_plaitref06_Reach_13
    simp only
    rw [bif_f (by simp)]
theorem l10 (p : Pg) (hs : small p) (u v : Int) (bs : List Bool) (hl : bs.length = (blks p).length) :
    loop L_plaitref06_Reach_10 (u, v, ((blks p).length : Int), 0, p, bs) = some (u, v, p, rd1 p (blks p).length bs) := by
  have h1000 : (blks p).length < 1000 := hs.2.2.1
  refine loop_count (f := L_plaitref06_Reach_10) (blks p).length (fun k => (u, v, ((blks p).length : Int), (k : Int), p, rd1 p k bs)) _ (fun k hk => ?_) ?_ 0 (Nat.zero_le _)
  · unfold L_plaitref06_Reach_10
    simp only
    have := l13 p hs k hk u v ((blks p).length : Int) (rd1 p k bs) ((rd1_len p bs k).trans hl)
    rw [bif_t (by simpa using hk), this]
    simp only [Option.bind_some]
    rw [wrapI (by omega) (by omega), rd1_succ]; rfl
  · unfold L_plaitref06_Reach_10
    simp only
    rw [bif_f (by simp)]
theorem l8 (p : Pg) (hs : small p) (bs : List Bool) (hl : bs.length = (blks p).length) :
    loop L_plaitref06_Reach_8 (((blks p).length : Int), 0, p, bs) = some (rds p (blks p).length bs) := by
  have h1000 : (blks p).length < 1000 := hs.2.2.1
  refine loop_count (f := L_plaitref06_Reach_8) (blks p).length (fun k => (((blks p).length : Int), (k : Int), p, rds p k bs)) _ (fun k hk => ?_) ?_ 0 (Nat.zero_le _)
  · unfold L_plaitref06_Reach_8
    simp only
    have := l10 p hs ((blks p).length : Int) (k : Int) (rds p k bs) ((rds_len p bs k).trans hl)
    rw [bif_t (by simpa using hk), this]
    simp only [Option.bind_some]
    rw [wrapI (by omega) (by omega)]; rfl
  · unfold L_plaitref06_Reach_8
    simp only
    rw [bif_f (by simp)]
def ini (n : Nat) : List Bool := (List.range n).map fun k => k == 0
theorem ini_succ (n : Nat) : ini (n + 1) = ini n ++ [n == 0] := by unfold ini; rw [List.range_succ, List.map_append]; rfl
theorem ini_len (n : Nat) : (ini n).length = n := by unfold ini; simp
theorem l4 (p : Pg) (hs : small p) : loop L_plaitref06_Reach_4 (((blks p).length : Int), 0, p, []) = some (p, ini (blks p).length) := by
  have h1000 : (blks p).length < 1000 := hs.2.2.1
  refine loop_count (f := L_plaitref06_Reach_4) (blks p).length (fun k => (((blks p).length : Int), (k : Int), p, ini k)) _ (fun k hk => ?_) ?_ 0 (Nat.zero_le _)
  · unfold L_plaitref06_Reach_4
    simp only
    rw [bif_t (by simpa using hk), bif_t (fits_iff.2 (by simp [ini_len]; omega)), wrapI (by omega) (by omega), ini_len, ini_succ]
    have : ((k : Int) == 0) = (k == 0) := by rw [Bool.eq_iff_iff]; simp
    rw [this]; rfl
  · unfold L_plaitref06_Reach_4
    simp only
    rw [bif_f (by simp)]
def outs (n : Nat) (bs : List Bool) : List Int := ((List.range n).filter fun t => bs.getD t false).map fun t : Nat => (t : Int)
theorem outs_succ (n : Nat) (bs : List Bool) : outs (n + 1) bs = outs n bs ++ if bs.getD n false then [(n : Int)] else [] := by
  unfold outs
  have : [n].filter (fun t => bs.getD t false) = if bs.getD n false then [n] else [] := by rw [List.filter_cons]; rfl
  rw [List.range_succ, List.filter_append, List.map_append, this]
  cases bs.getD n false <;> rfl
theorem outs_len (n : Nat) (bs : List Bool) : (outs n bs).length ≤ n := by
  unfold outs
  have := List.length_filter_le (fun t => bs.getD t false) (List.range n)
  simp at this ⊢; omega
theorem l22 (bs : List Bool) (hl : bs.length < 1000) : loop L_plaitref06_Reach_22 ((bs.length : Int), 0, [], bs) = some (outs bs.length bs) := by
  refine loop_count (f := L_plaitref06_Reach_22) bs.length (fun k => ((bs.length : Int), (k : Int), outs k bs, bs)) _ (fun k hk => ?_) ?_ 0 (Nat.zero_le _)
  · unfold L_plaitref06_Reach_22
    simp only
    have hg : getAt false bs k = bs.getD k false := getAt_eq _ _ _
    have ho := outs_len k bs
    rw [bif_t (by simpa using hk), bif_t (inb_nat hk), toN_nat, hg, wrapI (by omega) (by omega), bif_t (fits_iff.2 (by simp; omega)), outs_succ]
    cases h : bs.getD k false
    · rw [cond_false, if_neg (by simp), List.append_nil]; rfl
    · rfl
  · unfold L_plaitref06_Reach_22
    simp only
    rw [bif_f (by simp)]
theorem rreach_eq (p : Pg) (hs : small p) : F_plaitref06_Reach p = some (outs (blks p).length (rds p (blks p).length (ini (blks p).length))) := by
  unfold F_plaitref06_Reach
  have h1000 : (blks p).length < 1000 := hs.2.2.1
  rw [l4 p hs]
  simp only [Option.bind_some]
  rw [l8 p hs _ (ini_len _)]
  simp only [Option.bind_some]
  have hl := (rds_len p (ini (blks p).length) (blks p).length).trans (ini_len _)
  rw [l22 _ (by omega), hl]; rfl
/- What the rounds come to. -/
def Snd (p : Pg) (bs : List Bool) : Prop := ∀ t, bs.getD t false = true → Rch p t
theorem st1_snd {p : Pg} {b t : Nat} {bs : List Bool} (h : Snd p bs) : Snd p (st1 p b bs t) := by
  unfold st1
  split
  · rename_i hc
    simp only [Bool.and_eq_true] at hc
    intro u hu
    rw [set_get] at hu
    split at hu
    · rename_i e; rw [← e.1]; exact .step (h b hc.1) hc.2
    · exact h u hu
  · exact h
theorem st1_mono {p : Pg} {b t u : Nat} {bs : List Bool} (h : bs.getD u false = true) : (st1 p b bs t).getD u false = true := by
  unfold st1
  split
  · rw [set_get]; split
    · rfl
    · exact h
  · exact h
theorem in1_snd {p : Pg} {b : Nat} {bs : List Bool} (h : Snd p bs) : ∀ k, Snd p (in1 p k b bs)
  | 0 => h
  | k + 1 => by rw [in1_succ]; exact st1_snd (in1_snd h k)
theorem rd1_snd {p : Pg} {bs : List Bool} (h : Snd p bs) : ∀ k, Snd p (rd1 p k bs)
  | 0 => h
  | k + 1 => by rw [rd1_succ]; exact in1_snd (rd1_snd h k) _
theorem in1_mono {p : Pg} {b u : Nat} {bs : List Bool} (h : bs.getD u false = true) : ∀ k, (in1 p k b bs).getD u false = true
  | 0 => h
  | k + 1 => by rw [in1_succ]; exact st1_mono (in1_mono h k)
theorem rd1_mono {p : Pg} {u : Nat} {bs : List Bool} (h : bs.getD u false = true) : ∀ k, (rd1 p k bs).getD u false = true
  | 0 => h
  | k + 1 => by rw [rd1_succ]; exact in1_mono (rd1_mono h k) _
theorem in1_hit {p : Pg} {b t : Nat} {bs : List Bool} (hb : bs.getD b false = true) (he : edge p b t = true) (ht : t < bs.length) : ∀ k, t < k → (in1 p k b bs).getD t false = true
  | 0, h => by omega
  | k + 1, h => by
    rw [in1_succ]
    by_cases e : t < k
    · exact st1_mono (in1_hit hb he ht k e)
    · have : t = k := by omega
      subst this
      unfold st1
      rw [in1_mono hb, he, if_pos (by rfl), set_get, if_pos ⟨rfl, by rw [in1_len]; exact ht⟩]
theorem rd1_hit {p : Pg} {b t : Nat} {bs : List Bool} (hb : bs.getD b false = true) (he : edge p b t = true) (ht : t < bs.length) (ht2 : t < (blks p).length) : ∀ k, b < k → (rd1 p k bs).getD t false = true
  | 0, h => by omega
  | k + 1, h => by
    rw [rd1_succ]
    by_cases e : b < k
    · exact in1_mono (rd1_hit hb he ht ht2 k e) _
    · have : b = k := by omega
      subst this
      exact in1_hit (rd1_mono hb b) he (by rw [rd1_len]; exact ht) _ ht2
def Cls (p : Pg) (bs : List Bool) : Prop := ∀ b t, bs.getD b false = true → edge p b t = true → bs.getD t false = true
theorem set_same : ∀ (bs : List Bool) (t : Nat), bs.getD t false = true → bs.set t true = bs
  | [], t, h => rfl
  | a :: bs, 0, h => by
    have : a = true := h
    rw [this]; rfl
  | a :: bs, t + 1, h => by rw [List.set_cons_succ, set_same bs t h]
theorem st1_cls {p : Pg} {b t : Nat} {bs : List Bool} (h : Cls p bs) : st1 p b bs t = bs := by
  unfold st1
  split
  · rename_i hc
    simp only [Bool.and_eq_true] at hc
    exact set_same bs t (h b t hc.1 hc.2)
  · rfl
theorem in1_cls {p : Pg} {b : Nat} {bs : List Bool} (h : Cls p bs) : ∀ k, in1 p k b bs = bs
  | 0 => rfl
  | k + 1 => by rw [in1_succ, in1_cls h k, st1_cls h]
theorem rd1_cls {p : Pg} {bs : List Bool} (h : Cls p bs) : ∀ k, rd1 p k bs = bs
  | 0 => rfl
  | k + 1 => by rw [rd1_succ, rd1_cls h k, in1_cls h]
def cT (bs : List Bool) : Nat := (bs.filter id).length
theorem cT_le : ∀ (a b : List Bool), a.length = b.length → (∀ t, a.getD t false = true → b.getD t false = true) → cT a ≤ cT b ∧ ((∃ t, a.getD t false = false ∧ b.getD t false = true) → cT a < cT b)
  | [], [], _, _ => ⟨Nat.le_refl _, fun ⟨t, _, h⟩ => by cases t <;> cases h⟩
  | x :: a, y :: b, hl, h => by
    have ih := cT_le a b (by simpa using hl) (fun t ht => h (t + 1) ht)
    have h0 : x = true → y = true := h 0
    have c : ∀ (z : Bool) (l : List Bool), cT (z :: l) = (if z then 1 else 0) + cT l := by
      intro z l; unfold cT; cases z <;> simp [List.filter_cons]; omega
    rw [c, c]
    refine ⟨?_, ?_⟩
    · have := ih.1
      cases x <;> cases y <;> simp at h0 ⊢ <;> omega
    · rintro ⟨t, h1, h2⟩
      cases t with
      | zero =>
        have h1 : x = false := h1
        have h2 : y = true := h2
        have := ih.1
        rw [h1, h2]; simp; omega
      | succ t =>
        have := ih.2 ⟨t, h1, h2⟩
        cases x <;> cases y <;> simp at h0 ⊢ <;> omega
  | [], _ :: _, h, _ => by cases h
  | _ :: _, [], h, _ => by cases h
theorem rds_inv {p : Pg} (h : RightP p) : ∀ k, Snd p (rds p k (ini (blks p).length)) ∧ (rds p k (ini (blks p).length)).getD 0 false = true ∧ (Cls p (rds p k (ini (blks p).length)) ∨ k + 1 ≤ cT (rds p k (ini (blks p).length)))
  | 0 => by
    obtain ⟨n1, n2⟩ := nb_ok h
    have hz : ∀ t, (ini (blks p).length).getD t false = decide (t = 0) := by
      intro t
      unfold ini
      by_cases ht : t < (blks p).length
      · simp [List.getD, ht]; cases t <;> rfl
      · simp [List.getD, ht]; omega
    refine ⟨fun t ht => ?_, ?_, .inr ?_⟩
    · unfold rds at ht
      rw [hz] at ht
      have := of_decide_eq_true ht
      subst this
      exact .zero
    · unfold rds; rw [hz]; rfl
    · unfold rds
      obtain ⟨n, hn⟩ : ∃ n, (blks p).length = n + 1 := ⟨(blks p).length - 1, by omega⟩
      rw [hn]
      unfold ini cT
      rw [List.range_succ_eq_map]
      simp
  | k + 1 => by
    obtain ⟨h1, h2, h3⟩ := rds_inv h k
    have hl := (rds_len p (ini (blks p).length) k).trans (ini_len _)
    unfold rds
    generalize rds p k (ini (blks p).length) = bs at *
    refine ⟨rd1_snd h1 _, rd1_mono h2 _, ?_⟩
    by_cases hc : Cls p bs
    · left; rw [rd1_cls hc]; exact hc
    · right
      have h3 := h3.resolve_left hc
      have : ∃ b t, bs.getD b false = true ∧ edge p b t = true ∧ bs.getD t false = false := by
        apply Classical.byContradiction
        intro hn
        apply hc
        intro b t hb he
        cases hq : bs.getD t false with
        | true => rfl
        | false => exact absurd ⟨b, t, hb, he, hq⟩ hn
      obtain ⟨b, t, hb, he, hq⟩ := this
      have hbl : b < bs.length := by
        by_cases hb2 : b < bs.length
        · exact hb2
        · have : bs.getD b false = false := by simp [List.getD, hb2]
          rw [this] at hb; cases hb
      have ht := edge_lt h he
      have := (cT_le bs (rd1 p (blks p).length bs) (rd1_len p bs _).symm (fun t ht => rd1_mono ht _)).2 ⟨t, hq, rd1_hit hb he (by omega) ht _ (by omega)⟩
      omega
theorem rds_rch {p : Pg} (h : RightP p) (t : Nat) : (rds p (blks p).length (ini (blks p).length)).getD t false = true ↔ Rch p t := by
  obtain ⟨h1, h2, h3⟩ := rds_inv h (blks p).length
  have hl := (rds_len p (ini (blks p).length) (blks p).length).trans (ini_len _)
  generalize rds p (blks p).length (ini (blks p).length) = bs at *
  have hc : Cls p bs := by
    rcases h3 with h3 | h3
    · exact h3
    · have : cT bs ≤ bs.length := List.length_filter_le id bs
      omega
  refine ⟨h1 t, fun hr => ?_⟩
  induction hr with
  | zero => exact h2
  | step _ he ih => exact hc _ _ ih he
end Go.Proofs.Ytagjaiammndjoaa.VX.VxC_P
