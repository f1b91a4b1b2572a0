/- Plain laws of trace: the first event that is wrong, and the reference's answers. -/
import Derived.Test.YtkeolcgggondnaaVpTrC
set_option linter.unusedVariables false
set_option linter.unusedSimpArgs false
namespace Go.Proofs.Ytkeolcgggondnaa.VX.VxF_T
open Go.Proofs
def capsOK (caps : List Int) : Prop := caps.length ≤ 4 ∧ ∀ n ∈ caps, -1 ≤ n ∧ n ≤ 3
/-- The first event that is wrong; -1: none is. -/
def IsWrong (caps : List Int) (l : List Ev) (r : Int) : Prop :=
  (r = -1 ∧ GoodL caps l) ∨ ∃ i : Nat, ∃ h : i < l.length, r = i ∧ ¬ goodE caps (l.take i) l[i] ∧ GoodL caps (l.take i)
theorem GoodL_take {caps : List Int} {l : List Ev} (k : Nat) : GoodL caps (l.take k) ↔ ∀ i (h : i < l.length), i < k → goodE caps (l.take i) l[i] := by
  constructor
  · intro h i hi hk
    have := h i (by simp; omega)
    rw [List.take_take, Nat.min_eq_left (by omega)] at this
    simpa using this
  · intro h i hi
    have h' := hi
    simp only [List.length_take] at h'
    rw [List.take_take, Nat.min_eq_left (by omega)]
    simpa using h i (by omega) (by omega)
theorem GoodL_all {caps : List Int} {l : List Ev} : GoodL caps l ↔ GoodL caps (l.take l.length) := by rw [List.take_length]
theorem IsWrong.uniq {caps : List Int} {l : List Ev} {r s : Int} (h : IsWrong caps l r) (h2 : IsWrong caps l s) : r = s := by
  rcases h with ⟨rfl, a⟩ | ⟨i, hi, rfl, a, b⟩ <;> rcases h2 with ⟨rfl, c⟩ | ⟨j, hj, rfl, c, d⟩
  · rfl
  · exact absurd (a j hj) c
  · exact absurd (c i hi) a
  · rcases Nat.lt_trichotomy i j with h | h | h
    · exact absurd ((GoodL_take j).1 d i hi h) a
    · rw [h]
    · exact absurd ((GoodL_take i).1 b j hj h) c
theorem IsWrong.take {caps : List Int} {l : List Ev} {r : Int} (h : IsWrong caps l r) (k : Nat) : IsWrong caps (l.take k) (if 0 ≤ r ∧ r < k then r else -1) := by
  rcases h with ⟨rfl, a⟩ | ⟨i, hi, rfl, a, b⟩
  · rw [if_neg (by omega)]
    exact .inl ⟨rfl, (GoodL_take k).2 fun i hi _ => a i hi⟩
  · by_cases hk : i < k
    · rw [if_pos (by omega)]
      refine .inr ⟨i, by simp; omega, rfl, ?_, ?_⟩
      · rw [List.take_take, Nat.min_eq_left (by omega)]; simpa using a
      · rw [List.take_take, Nat.min_eq_left (by omega)]; exact b
    · rw [if_neg (by omega)]
      exact .inl ⟨rfl, (GoodL_take k).2 fun j hj hjk => (GoodL_take i).1 b j hj (by omega)⟩
theorem IsWrong.range {caps : List Int} {l : List Ev} {r : Int} (h : IsWrong caps l r) : -1 ≤ r ∧ (r < l.length) := by
  rcases h with ⟨rfl, a⟩ | ⟨i, hi, rfl, a, b⟩ <;> omega
theorem getAtE {l : List Ev} {i : Nat} (h : i < l.length) : getAt ((0 : Int), ((0 : Int), ((0 : Int), ((0 : Int), (0 : Int))))) l (toN (i : Int)) = l[i] := getAtL _ h
theorem cutE (l : List Ev) (i : Nat) : cut l (toN 0) (toN (i : Int) - toN 0) = l.take i := rfl
theorem jok0 (caps : List Int) : JOK caps [] (caps, [0, 0, 0, 0, 0, 0, 0, 0], 0, [], [], orgM) where
  caps := rfl
  len := rfl
  last := by intro g hg; show [0, 0, 0, 0, 0, 0, 0, 0].getD g 0 = 0; rcases (by omega : g = 0 ∨ g = 1 ∨ g = 2 ∨ g = 3 ∨ g = 4 ∨ g = 5 ∨ g = 6 ∨ g = 7) with rfl | rfl | rfl | rfl | rfl | rfl | rfl | rfl <;> rfl
  begun := rfl
  count := fun k o => rfl
  first := fun o => rfl
  orig := rfl
theorem wrong_loop {caps : List Int} {l : List Ev} (hl : l.length < 1000) (hc : capsOK caps) : ∀ x : Nat × St, x.1 ≤ l.length ∧ JOK caps (l.take x.1) x.2 ∧ GoodL caps (l.take x.1) →
    ∃ y, loop L_trace_Wrong_7 (l, l, l.length, (x.1 : Int), x.2) = some y ∧ ((∃ i, y = .inl (i, 0) ∧ 0 ≤ i ∧ IsWrong caps l i) ∨ y = .inr () ∧ GoodL caps l) := by
  have : ∀ d (k : Nat) (s : St), l.length - k = d → k ≤ l.length → JOK caps (l.take k) s → GoodL caps (l.take k) →
      ∃ y, loop L_trace_Wrong_7 (l, l, l.length, (k : Int), s) = some y ∧ ((∃ i, y = .inl (i, 0) ∧ 0 ≤ i ∧ IsWrong caps l i) ∨ y = .inr () ∧ GoodL caps l) := by
    intro d
    induction d with
    | zero =>
      intro k s h1 h2 h3 h4
      obtain rfl : k = l.length := by omega
      refine ⟨.inr (), ?_, .inr ⟨rfl, GoodL_all.2 h4⟩⟩
      rw [loop_eq]
      unfold L_trace_Wrong_7
      simp only
      rw [bif_f (decide_eq_false (by omega))]
    | succ d ih =>
      intro k s h1 h2 h3 h4
      have hk : k < l.length := by omega
      have hG : ∀ x ∈ l.take k, 0 ≤ x.1 := goodL_G h4
      obtain ⟨s', e1, e2⟩ := may_eq h3 l[k] (by simp; omega) hc.2 hc.1 hG
      rw [loop_eq]
      have step : L_trace_Wrong_7 (l, l, l.length, (k : Int), s) = bif tB (goodE caps (l.take k) l[k]) then some (.inl (l, l, (l.length : Int), ((k + 1 : Nat) : Int), s')) else some (.inr (.inl ((k : Int), 0))) := by
        unfold L_trace_Wrong_7
        simp only
        rw [bif_t (decide_eq_true (by omega)), bif_t (inb_nat hk), bif_t (sub3L.2 ⟨by omega, by omega, by omega⟩), getAtE hk, cutE]
        rw [show (l.take k, l[k], s.1, s.2.1, s.2.2.1, s.2.2.2.1, s.2.2.2.2.1, s.2.2.2.2.2) = (l.take k, l[k], s) from rfl, e1]
        simp only [Option.bind_some]
        by_cases hg : goodE caps (l.take k) l[k]
        · rw [tB_t hg, wrapI (by omega) (by omega)]; rfl
        · rw [tB_f hg]; rfl
      rw [step]
      by_cases hg : goodE caps (l.take k) l[k]
      · rw [bif_t (tB_t hg)]
        refine ih (k + 1) s' (by omega) (by omega) ?_ ?_
        · rw [← List.take_append_getElem hk]; exact e2 hg
        · refine (GoodL_take (k + 1)).2 fun i hi hik => ?_
          by_cases h : i = k
          · subst h; exact hg
          · exact (GoodL_take k).1 h4 i hi (by omega)
      · rw [bif_f (tB_f hg)]
        exact ⟨_, rfl, .inl ⟨k, rfl, by omega, .inr ⟨k, hk, rfl, hg, h4⟩⟩⟩
  exact fun x h => this _ x.1 x.2 rfl h.1 h.2.1 h.2.2
theorem inCap_eq (n : Int) : F_trace_Wrong_1 n = some (!decide (-1 ≤ n ∧ n ≤ 3)) := by
  unfold F_trace_Wrong_1
  rw [in_eq]; rfl
theorem capsAny_eq (caps : List Int) (h : caps.length < 1000) : F_slices_ContainsFunc_int__trace_Wrong_1 caps = some (tB (¬ ∀ n ∈ caps, -1 ≤ n ∧ n ≤ 3)) := by
  have hf := loop_find (f := L_slices_IndexFunc_int__trace_Wrong_1_3) caps (fun n => !decide (-1 ≤ n ∧ n ≤ 3)) (fun k => (caps, (caps.length : Int), (k : Int))) (fun k => .inl (k : Int)) (.inr ()) (by
      intro k hk
      unfold L_slices_IndexFunc_int__trace_Wrong_1_3
      simp only
      rw [bif_t (decide_eq_true (by omega)), bif_t (inb_nat hk), toN_nat, getAtL _ hk, inCap_eq, wrapI (by omega) (by omega)]
      simp only [Option.bind_some]
      cases hb : !decide (-1 ≤ caps[k] ∧ caps[k] ≤ 3)
      · rfl
      · rfl) (by
      unfold L_slices_IndexFunc_int__trace_Wrong_1_3
      simp only
      rw [bif_f (decide_eq_false (by omega))])
  unfold F_slices_ContainsFunc_int__trace_Wrong_1 F_slices_IndexFunc_int__trace_Wrong_1
  rw [show loop L_slices_IndexFunc_int__trace_Wrong_1_3 (caps, ((caps.length : Nat) : Int), 0) = _ from hf]
  simp only [Option.bind_some]
  cases hfi : caps.findIdx? (fun n => !decide (-1 ≤ n ∧ n ≤ 3)) with
  | none =>
    have := List.findIdx?_eq_none_iff.1 hfi
    simp only [Option.bind_some]
    rw [tB_f (fun h => h fun n hn => by simpa using this n hn)]; rfl
  | some i =>
    obtain ⟨hi, hp, _⟩ := List.findIdx?_eq_some_iff_getElem.1 hfi
    simp only [Option.bind_some]
    rw [tB_t (fun h => by have := h _ (List.getElem_mem hi); simp at hp; omega), decide_eq_true (by omega)]
theorem wrong_eq (caps : List Int) (l : List Ev) (hn : caps.length < 1000) (hl : l.length < 1000) :
    ∃ r e, F_trace_Wrong (caps, l) = some (r, e) ∧ (capsOK caps ∧ e = 0 ∧ IsWrong caps l r ∨ ¬ capsOK caps ∧ e = 1 ∧ r = 0) := by
  unfold F_trace_Wrong
  simp only
  by_cases h4 : caps.length ≤ 4
  case neg =>
    rw [bif_t (decide_eq_true (by omega))]
    exact ⟨_, _, rfl, .inr ⟨fun h => h4 h.1, rfl, rfl⟩⟩
  rw [bif_f (decide_eq_false (by omega)), capsAny_eq caps hn]
  simp only [Option.bind_some]
  by_cases hc : ∀ n ∈ caps, -1 ≤ n ∧ n ≤ 3
  case neg =>
    rw [tB_t hc]
    exact ⟨_, _, rfl, .inr ⟨fun h => hc h.2, rfl, rfl⟩⟩
  rw [tB_f (fun h => h hc)]
  simp only [cond_false, origins_eq, Option.bind_some]
  have hr : ∀ s : St, F_trace_judge_rules s = some s := fun s => rfl
  rw [show ((caps, [0, 0, 0, 0, 0, 0, 0, 0], 0, ([] : List ((Int × Int) × Int)), ([] : List (Int × Int)), orgM)) = (show St from (caps, [0, 0, 0, 0, 0, 0, 0, 0], 0, [], [], orgM)) from rfl, hr]
  simp only [Option.bind_some]
  obtain ⟨y, e1, e2⟩ := wrong_loop hl ⟨h4, hc⟩ (0, (caps, [0, 0, 0, 0, 0, 0, 0, 0], 0, [], [], orgM)) ⟨Nat.zero_le _, jok0 caps, fun i h => by simp at h⟩
  have e1 : loop L_trace_Wrong_7 (l, l, (l.length : Int), 0, caps, [0, 0, 0, 0, 0, 0, 0, 0], 0, [], [], orgM) = some y := e1
  rw [e1]
  rcases e2 with ⟨i, rfl, h0, h1⟩ | ⟨rfl, h1⟩
  · exact ⟨_, _, rfl, .inl ⟨⟨h4, hc⟩, rfl, h1⟩⟩
  · exact ⟨_, _, rfl, .inl ⟨⟨h4, hc⟩, rfl, .inl ⟨rfl, h1⟩⟩⟩
end Go.Proofs.Ytkeolcgggondnaa.VX.VxF_T
