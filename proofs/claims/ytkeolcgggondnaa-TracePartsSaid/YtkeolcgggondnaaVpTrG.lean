/- Plain laws of trace: TraceParts and TraceTells. -/
import Derived.Test.YtkeolcgggondnaaVpTrF
set_option linter.unusedVariables false
set_option linter.unusedSimpArgs false
namespace Go.Proofs.Ytkeolcgggondnaa.VX.VxF_T
open Go.Proofs
theorem wrongRef_eq (caps : List Int) (l : List Ev) (hl : l.length < 1000) (hc : capsOK caps) : ∃ r, F_plaitref14_Wrong (caps, l) = some r ∧ IsWrong caps l r := by
  have key := loop_rule (f := L_plaitref14_Wrong_3) (fun x => ∃ k : Nat, x = (caps, l, (l.length : Int), (k : Int)) ∧ k ≤ l.length ∧ GoodL caps (l.take k))
    (fun y => (∃ i, y = .inl i ∧ IsWrong caps l i) ∨ y = .inr () ∧ GoodL caps l) (fun x => (x.2.2.1 - x.2.2.2).toNat) (by
      rintro x ⟨k, rfl, hk, hG⟩
      by_cases h : k < l.length
      · have e : L_plaitref14_Wrong_3 (caps, l, (l.length : Int), (k : Int)) = bif tB (¬ goodE caps (l.take k) l[k]) then some (.inr (.inl (k : Int))) else some (.inl (caps, l, (l.length : Int), ((k + 1 : Nat) : Int))) := by
          unfold L_plaitref14_Wrong_3
          simp only
          rw [bif_t (decide_eq_true (by omega)), badRef_eq h hl hc hG, wrapI (by omega) (by omega)]; rfl
        by_cases hg : goodE caps (l.take k) l[k]
        · rw [bif_f (tB_f (fun q => q hg))] at e
          refine .inl ⟨_, e, ⟨k + 1, rfl, h, ?_⟩, by simp only; omega⟩
          refine (GoodL_take (k + 1)).2 fun i hi hik => ?_
          by_cases h2 : i = k
          · subst h2; exact hg
          · exact (GoodL_take k).1 hG i hi (by omega)
        · rw [bif_t (tB_t hg)] at e
          exact .inr ⟨_, e, .inl ⟨_, rfl, .inr ⟨k, h, rfl, hg, hG⟩⟩⟩
      · obtain rfl : k = l.length := by omega
        refine .inr ⟨.inr (), ?_, .inr ⟨rfl, GoodL_all.2 hG⟩⟩
        unfold L_plaitref14_Wrong_3
        simp only
        rw [bif_f (decide_eq_false (by omega))])
  obtain ⟨y, e1, e2⟩ := key (caps, l, (l.length : Int), ((0 : Nat) : Int)) ⟨0, rfl, Nat.zero_le _, fun i h => by simp at h⟩
  unfold F_plaitref14_Wrong
  rw [show loop L_plaitref14_Wrong_3 (caps, l, ((l.length : Nat) : Int), 0) = _ from e1]
  rcases e2 with ⟨i, rfl, h⟩ | ⟨rfl, h⟩
  · exact ⟨_, rfl, h⟩
  · exact ⟨_, rfl, .inl ⟨rfl, h⟩⟩
theorem capsRef_eq (caps : List Int) (hn : caps.length < 1000) : F_plaitref14_Caps caps = some (tB (capsOK caps)) := by
  have hf := loop_find (f := L_plaitref14_Caps_3) caps (fun n => !decide (-1 ≤ n ∧ n ≤ 3)) (fun k => (caps, caps, (caps.length : Int), (k : Int))) (fun k => .inl false) (.inr caps) (by
      intro k hk
      unfold L_plaitref14_Caps_3
      simp only
      rw [bif_t (decide_eq_true (by omega)), bif_t (inb_nat hk), toN_nat, getAtL _ hk, wrapI (by omega) (by omega)]
      generalize caps[k] = n
      by_cases h1 : n < -1
      · rw [bif_t (decide_eq_true (by exact h1)), if_pos (by simp; omega)]
      rw [bif_f (decide_eq_false (by exact h1))]
      by_cases h2 : n > 3
      · rw [bif_t (decide_eq_true h2), if_pos (by simp; omega)]
      rw [bif_f (decide_eq_false h2), if_neg (by simp; omega)]; rfl) (by
      unfold L_plaitref14_Caps_3
      simp only
      rw [bif_f (decide_eq_false (by omega))])
  unfold F_plaitref14_Caps
  rw [show loop L_plaitref14_Caps_3 (caps, caps, ((caps.length : Nat) : Int), 0) = _ from hf]
  cases hfi : caps.findIdx? (fun n => !decide (-1 ≤ n ∧ n ≤ 3)) with
  | none =>
    have := List.findIdx?_eq_none_iff.1 hfi
    simp only [Option.bind_some]
    rw [tB_dec]
    refine some_tB ?_
    unfold capsOK
    exact ⟨fun h => ⟨by omega, fun n hn => by simpa using this n hn⟩, fun h => by have := h.1; omega⟩
  | some i =>
    obtain ⟨hi, hp, _⟩ := List.findIdx?_eq_some_iff_getElem.1 hfi
    simp only [Option.bind_some]
    rw [tB_f]
    intro h
    have := h.2 _ (List.getElem_mem hi)
    simp at hp; omega
theorem few_eq (l : List Ev) : F_plaitlaw14_few l = some (l.take 150) := by
  unfold F_plaitlaw14_few
  rw [bif_t (sub3L.2 ⟨by omega, by omega, by omega⟩), cut_min l 150 150 rfl]
theorem alive_eq : F_plaitlaw14_alive () = some true := by
  unfold F_plaitlaw14_alive
  obtain ⟨r, e, h1, h2⟩ := wrong_eq [] [(0, 0, 0, 0, -1), (1, 16, 0, 0, -1)] (by decide) (by decide)
  have h1 : F_trace_Wrong ([], [(0, 0, 0, 0, Int.negSucc 0), (1, 16, 0, 0, Int.negSucc 0)]) = some (r, e) := h1
  simp only [h1, Option.bind_some]
  rcases h2 with ⟨hc, rfl, hw⟩ | ⟨hc, _⟩
  · have hw2 : IsWrong [] [(0, 0, 0, 0, -1), (1, 16, 0, 0, -1)] 1 := by
      refine .inr ⟨1, by decide, rfl, ?_, ?_⟩
      · intro q
        have := q.2
        rw [if_neg (by decide)] at this
        exact this.1 (by rfl)
      · intro i hi
        have hi : i < 1 := hi
        obtain rfl : i = 0 := by omega
        show goodE [] [] (0, 0, 0, 0, -1)
        refine ⟨⟨by decide, by decide, by decide, by decide, by decide, by decide, by decide⟩, ?_⟩
        rw [if_pos (by rfl)]
        exact ⟨rfl, rfl, rfl, by rw [if_pos (by rfl)]⟩
    rw [hw.uniq hw2]; rfl
  · exact absurd ⟨by decide, by simp⟩ hc
theorem traceParts_law (caps : List Int) (l : List Ev) (k : Int) : F_plaitlaw14_TraceParts (caps, l, k) = some true := by
  have hln : (l.take 150).length ≤ 150 := by simp; omega
  have hcn : (caps.take 6).length ≤ 6 := by simp; omega
  unfold F_plaitlaw14_TraceParts
  simp only
  rw [bif_t (sub3L.2 ⟨by omega, by omega, by omega⟩), few_eq, cut_min caps 6 6 rfl]
  simp only [Option.bind_some, alive_eq]
  generalize l.take 150 = l at *
  generalize caps.take 6 = caps at *
  obtain ⟨r, e, h1, h2⟩ := wrong_eq caps l (by omega) (by omega)
  rw [h1]
  simp only [Option.bind_some]
  rcases h2 with ⟨hc, rfl, hw⟩ | ⟨hc, rfl, rfl⟩
  case inr => rfl
  have hr := hw.range
  rw [bif_f (by rfl), wrapI (n := (l.length : Int) + 1) (by omega) (by omega), bif_t (by simp; omega), bif_t (by simp; omega)]
  have t1 := Int.tmod_lt_of_pos k (show (0 : Int) < l.length + 1 by omega)
  have t2 := Int.lt_tmod_of_pos k (show (0 : Int) < l.length + 1 by omega)
  rw [wrapI (n := Int.tmod k (l.length + 1) + l.length) (by omega) (by omega), wrapI (by omega) (by omega)]
  have t3 : 0 ≤ Int.tmod (Int.tmod k (l.length + 1) + l.length + 1) (l.length + 1) := Int.tmod_nonneg _ (by omega)
  have t4 := Int.tmod_lt_of_pos (Int.tmod k (l.length + 1) + l.length + 1) (show (0 : Int) < l.length + 1 by omega)
  generalize Int.tmod (Int.tmod k (l.length + 1) + l.length + 1) (l.length + 1) = m at *
  obtain ⟨n, rfl⟩ : ∃ n : Nat, m = n := ⟨m.toNat, by omega⟩
  rw [bif_t (sub3L.2 ⟨by omega, by omega, by omega⟩), cutE]
  obtain ⟨r', e', h1', h2'⟩ := wrong_eq caps (l.take n) (by omega) (by simp; omega)
  rw [h1']
  simp only [Option.bind_some]
  rcases h2' with ⟨_, rfl, hw'⟩ | ⟨hc', _⟩
  case inr => exact absurd hc hc'
  have := hw'.uniq (hw.take n)
  subst this
  by_cases c1 : r ≥ 0
  · rw [bif_t (decide_eq_true c1)]
    by_cases c2 : (n : Int) > r
    · rw [bif_t (decide_eq_true c2), bif_t (by rfl), bif_t (by rfl), bif_t (decide_eq_true (by exact hr.1)), bif_t (decide_eq_true hr.2), if_pos (by omega)]; simp
    · rw [bif_f (decide_eq_false c2), bif_t (by rfl), bif_t (by rfl), bif_t (decide_eq_true (by exact hr.1)), bif_t (decide_eq_true hr.2), if_neg (by omega)]; rfl
  · rw [bif_f (decide_eq_false c1), bif_t (by rfl), bif_t (by rfl), bif_t (decide_eq_true (by exact hr.1)), bif_t (decide_eq_true hr.2), if_neg (by omega)]; rfl
theorem last_eq (l : List Ev) (i : Int) (hl : l.length < 1000) : F_trace_Last (l, i) = if h : 0 ≤ i ∧ i.toNat < l.length then some ((lastE l[i.toNat].1 (l.take i.toNat) 0 : Int) - 1, 0) else some (0, 3) := by
  unfold F_trace_Last
  simp only
  by_cases h0 : i < 0
  · rw [bif_t (decide_eq_true h0), dif_neg (by omega)]
  rw [bif_f (decide_eq_false h0)]
  by_cases h1 : i ≥ l.length
  · rw [bif_t (decide_eq_true h1), dif_neg (by omega)]
  rw [bif_f (decide_eq_false h1), dif_pos ⟨by omega, by omega⟩]
  obtain ⟨n, rfl⟩ : ∃ n : Nat, i = n := ⟨i.toNat, by omega⟩
  have hn : n < l.length := by omega
  rw [wrapI (by omega) (by omega)]
  have key := loop_rule (f := L_trace_Last_5) (fun x => ∃ k : Nat, x = (l, (n : Int), (k : Int) - 1) ∧ k ≤ n ∧ lastE l[n].1 (l.take n) 0 = lastE l[n].1 (l.take k) 0)
    (fun y => (y = .inl ((lastE l[n].1 (l.take n) 0 : Int) - 1, 0)) ∨ y = .inr () ∧ lastE l[n].1 (l.take n) 0 = 0) (fun x => (x.2.2 + 1).toNat) (by
      rintro x ⟨k, rfl, hk, hG⟩
      unfold L_trace_Last_5
      simp only
      cases k with
      | zero => exact .inr ⟨_, by rw [bif_f (decide_eq_false (by omega))], .inr ⟨rfl, hG⟩⟩
      | succ k =>
        have hk' : k < l.length := by omega
        rw [bif_t (decide_eq_true (by omega)), show ((k + 1 : Nat) : Int) - 1 = (k : Int) by omega, bif_t (inb_nat hk'), bif_t (inb_nat hn), getAtE hn, getAtE hk', wrapI (by omega) (by omega)]
        have hlen : (l.take k).length = k := by simp; omega
        rw [← List.take_append_getElem hk', lastE_app, hlen] at hG
        by_cases c : l[k].1 = l[n].1
        · rw [if_pos c] at hG
          refine .inr ⟨_, by rw [bif_t (by simpa using c)], .inl ?_⟩
          rw [hG]
          congr 2
          omega
        · rw [if_neg c] at hG
          exact .inl ⟨_, by rw [bif_f (by simpa using c)], ⟨k, rfl, by omega, hG⟩, by simp only; omega⟩)
  obtain ⟨y, e1, e2⟩ := key (l, (n : Int), (n : Int) - 1) ⟨n, rfl, Nat.le_refl _, rfl⟩
  rw [e1]
  rcases e2 with rfl | ⟨rfl, h⟩
  · rfl
  · simp only [Option.bind_some, Int.toNat_natCast, h]; rfl
theorem count_eq (l : List Ev) (i : Int) (k o : Int) (hl : l.length < 1000) : F_trace_Count (l, i, k, o) = if 0 ≤ i ∧ i.toNat < l.length then some ((cntE (l.take i.toNat) k o : Int), 0) else some (0, 3) := by
  unfold F_trace_Count
  simp only
  by_cases h0 : i < 0
  · rw [bif_t (decide_eq_true h0), if_neg (by omega)]
  rw [bif_f (decide_eq_false h0)]
  by_cases h1 : i ≥ l.length
  · rw [bif_t (decide_eq_true h1), if_neg (by omega)]
  rw [bif_f (decide_eq_false h1), if_pos ⟨by omega, by omega⟩]
  obtain ⟨n, rfl⟩ : ∃ n : Nat, i = n := ⟨i.toNat, by omega⟩
  have hn : n < l.length := by omega
  have hlen : (l.take n).length = n := by simp; omega
  have key := loop_count (f := L_trace_Count_6) n (fun j => (k, o, (cntE (l.take j) k o : Int), l.take n, (n : Int), (j : Int))) (cntE (l.take n) k o : Int) (by
      intro j hj
      have hj' : j < (l.take n).length := by omega
      unfold L_trace_Count_6
      simp only
      have h1 := cntE_le (l.take j) k o
      have h2 : (l.take j).length ≤ 1000 := by simp; omega
      rw [bif_t (decide_eq_true (by omega)), bif_t (inb_nat hj'), getAtE hj', wrapI (n := (j : Int) + 1) (by omega) (by omega), wrapI (n := (cntE (l.take j) k o : Int) + 1) (by omega) (by omega)]
      have hx : (l.take n)[j] = l[j] := by simp
      rw [hx, ← List.take_append_getElem (by omega : j < l.length), cntE_app]
      by_cases a : l[j].2.1 = k
      · rw [bif_t (by simpa using a)]
        by_cases b : l[j].2.2.1 = o
        · rw [bif_t (by simpa using b), if_pos ⟨a, b⟩]; rfl
        · rw [bif_f (by simpa using b), if_neg (fun q => b q.2)]; rfl
      · rw [bif_f (by simpa using a), if_neg (fun q => a q.1)]; rfl) (by
      unfold L_trace_Count_6
      simp only
      rw [bif_f (decide_eq_false (by omega))]) 0 (Nat.zero_le _)
  rw [bif_t (sub3L.2 ⟨by omega, by omega, by omega⟩), cutE, hlen]
  rw [show loop L_trace_Count_6 (k, o, (0 : Int), l.take n, (n : Int), 0) = _ from key]
  rfl
theorem traceTells_law (caps : List Int) (l : List Ev) (i k o : Int) : F_plaitlaw14_TraceTells (caps, l, i, k, o) = some true := by
  have hln : (l.take 150).length ≤ 150 := by simp; omega
  have hcn : (caps.take 6).length ≤ 6 := by simp; omega
  unfold F_plaitlaw14_TraceTells
  simp only
  rw [bif_t (sub3L.2 ⟨by omega, by omega, by omega⟩), few_eq, cut_min caps 6 6 rfl]
  simp only [Option.bind_some, alive_eq]
  generalize l.take 150 = l at *
  generalize caps.take 6 = caps at *
  obtain ⟨r, e, h1, h2⟩ := wrong_eq caps l (by omega) (by omega)
  rw [h1, capsRef_eq caps (by omega), last_eq l i (by omega), count_eq l i k o (by omega)]
  simp only [Option.bind_some]
  by_cases hi : 0 ≤ i ∧ i.toNat < l.length
  · obtain ⟨n, rfl⟩ : ∃ n : Nat, i = n := ⟨i.toNat, by omega⟩
    have hn : n < l.length := hi.2
    rw [dif_pos hi, if_pos hi]
    simp only [Int.toNat_natCast, Option.bind_some]
    rw [lastRef_eq hn (by omega), countRef_eq (Nat.le_of_lt hn) (by omega)]
    simp only [Option.bind_some, decide_eq_false (show ¬ (n : Int) < 0 by omega), decide_eq_false (show ¬ (n : Int) ≥ l.length by omega), cond_false, cond_true, beq_self_eq_true]
    rcases h2 with ⟨hc, rfl, hw⟩ | ⟨hc, rfl, rfl⟩
    · rw [tB_t hc]
      obtain ⟨r', e', hw'⟩ := wrongRef_eq caps l (by omega) hc
      rw [e', hw.uniq hw']
      simp
    · rw [tB_f hc]; rfl
  · rw [dif_neg hi, if_neg hi]
    simp only [Option.bind_some]
    rcases h2 with ⟨hc, rfl, hw⟩ | ⟨hc, rfl, rfl⟩
    · rw [tB_t hc]
      obtain ⟨r', e', hw'⟩ := wrongRef_eq caps l (by omega) hc
      rw [e', hw.uniq hw']
      by_cases h0 : i < 0
      · rw [decide_eq_true h0]; simp
      · rw [decide_eq_false h0, decide_eq_true (show i ≥ l.length by omega)]; simp
    · rw [tB_f hc]
      by_cases h0 : i < 0
      · rw [decide_eq_true h0]; rfl
      · rw [decide_eq_false h0, decide_eq_true (show i ≥ l.length by omega)]; rfl
end Go.Proofs.Ytkeolcgggondnaa.VX.VxF_T
namespace Go.Proofs.Ytkeolcgggondnaa.VX.VxF_T
abbrev tyEv : Ty := .pair (.int .i64) (.pair (.int .i64) (.pair (.int .i64) (.pair (.int .i64) (.int .i64))))
theorem traceParts_all (x : HL [.slice (.int .i64), .slice tyEv, .int .i64]) (h : wfHL [.slice (.int .i64), .slice tyEv, .int .i64] x) : F_plaitlaw14_TraceParts x = some true := traceParts_law x.1 x.2.1 x.2.2
theorem traceTells_all (x : HL [.slice (.int .i64), .slice tyEv, .int .i64, .int .i64, .int .i64]) (h : wfHL [.slice (.int .i64), .slice tyEv, .int .i64, .int .i64, .int .i64] x) : F_plaitlaw14_TraceTells x = some true := traceTells_law x.1 x.2.1 x.2.2.1 x.2.2.2.1 x.2.2.2.2
end Go.Proofs.Ytkeolcgggondnaa.VX.VxF_T
