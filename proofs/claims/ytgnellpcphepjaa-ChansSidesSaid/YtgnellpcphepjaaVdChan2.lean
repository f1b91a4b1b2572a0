/- Plain laws of chans, more: New, Ready, Close, Leave, and the references. -/
import Derived.Test.YtgnellpcphepjaaVdChan
import Derived.Test.YtgnellpcphepjaaVdRing2
set_option linter.unusedVariables false
set_option linter.unusedSimpArgs false
namespace Go.Proofs.Ytgnellpcphepjaa.VX.VxD_C
open Go.Proofs
theorem neg1 : Int.negSucc 0 = (-1 : Int) := rfl
def nobody : W := (-1, 0, 0)
def otherP (l : List W) (g : Int) : W := match l.findIdx? (notG g) with | some i => l.getD i zeroW | none => nobody
theorem other_eq (l : List W) (c : Ch) (g : Int) (hl : wOK l) (hg : 0 ≤ g) : F_chans_work_other (l, c, g) = some (otherP l g, c, g) := by
  unfold F_chans_work_other otherP
  have h64 := hl.2.1
  rw [wfirst_eq l g (by omega), if_pos hl, if_neg (by omega)]
  cases hf : l.findIdx? (notG g) with
  | none => rfl
  | some i => rfl
theorem other_in {l : List W} {g : Int} (hl : wOK l) : ((otherP l g).1 = -1 ∧ otherP l g = nobody ∧ l.findIdx? (notG g) = none) ∨ ((otherP l g).1 ≠ -1 ∧ isW (otherP l g) ∧ otherP l g ∈ l ∧ ∃ i, i < l.length ∧ l.findIdx? (notG g) = some i ∧ otherP l g = l.getD i zeroW) := by
  unfold otherP
  cases hf : l.findIdx? (notG g) with
  | none => exact .inl ⟨rfl, rfl, rfl⟩
  | some i =>
    obtain ⟨hi, _⟩ := List.findIdx?_eq_some_iff_getElem.1 hf
    have he : l.getD i zeroW = l[i] := by simp [List.getD, hi]
    have hm : l.getD i zeroW ∈ l := by rw [he]; exact List.getElem_mem hi
    have hw := hl.1 _ hm
    exact .inr ⟨by have := hw.1; simp only; omega, hw, hm, i, hi, rfl, rfl⟩
theorem wOK_filter {l : List W} (h : wOK l) (p : W → Bool) : wOK (l.filter p) := ⟨fun w hw => h.1 w (List.mem_filter.1 hw).1, Nat.le_trans (List.length_filter_le _ _) h.2.1, List.Sublist.nodup (List.Sublist.map _ List.filter_sublist) h.2.2⟩
def leaveC (c : Ch) (g : Int) : Ch := (c.1, c.2.1, c.2.2.1, c.2.2.2.1, c.2.2.2.2.1, c.2.2.2.2.2.1.filter (notG g), c.2.2.2.2.2.2.filter (notG g))
theorem wleave_eq (c : Ch) (g k : Int) (h1 : wOK c.2.2.2.2.2.1) (h2 : wOK c.2.2.2.2.2.2) (hg : 0 ≤ g) : F_chans_work_leave (g, c, k) = some (leaveC c g, k) := by
  unfold F_chans_work_leave
  have a1 := h1.2.1
  have a2 := h2.2.1
  simp only
  rw [wdrop_eq _ _ (by omega), wdrop_eq _ _ (by omega), if_pos h1, if_pos h2, if_neg (by omega), if_neg (by omega)]
  rfl
theorem leave_ok {c : Ch} (h : chOK c) (g : Int) : chOK (leaveC c g) := by
  obtain ⟨a1, a2, a3, a4, a5, a6, a7, a8, a9, a10, a11, a12⟩ := h
  refine ⟨a1, a2, a3, a4, wOK_filter a5 _, wOK_filter a6 _, a7, a8, a9, a10, a11, ?_⟩
  have l1 := List.length_filter_le (notG g) c.2.2.2.2.2.1
  have l2 := List.length_filter_le (notG g) c.2.2.2.2.2.2
  unfold sidesOK at a12 ⊢
  show if c.1 < 0 then c.2.1 = false ∧ c.2.2.2.1 = 0 ∧ (c.2.2.2.2.2.1.filter (notG g)).length = 0 ∧ (c.2.2.2.2.2.2.filter (notG g)).length = 0 else
    if c.2.1 = true then (c.2.2.2.2.2.1.filter (notG g)).length = 0 ∧ (c.2.2.2.2.2.2.filter (notG g)).length = 0 else ((c.2.2.2.2.2.1.filter (notG g)).length = 0 ∨ c.2.2.1.2.2.2 = c.1) ∧ ((c.2.2.2.2.2.2.filter (notG g)).length = 0 ∨ c.2.2.1.2.2.2 = 0)
  split
  · rename_i h; rw [if_pos h] at a12; exact ⟨a12.1, a12.2.1, by omega, by omega⟩
  · rename_i h; rw [if_neg h] at a12
    split
    · rename_i h2; rw [if_pos h2] at a12; exact ⟨by omega, by omega⟩
    · rename_i h2; rw [if_neg h2] at a12
      exact ⟨a12.1.imp (fun e => by omega) id, a12.2.imp (fun e => by omega) id⟩
theorem len1 {c : Ch} (h : chOK c) : c.2.2.2.2.2.1.length ≤ 64 := h.2.2.2.2.1.2.1
theorem len2 {c : Ch} (h : chOK c) : c.2.2.2.2.2.2.length ≤ 64 := h.2.2.2.2.2.1.2.1
theorem cleave_eq (c : Ch) (g : Int) (h1 : c.2.2.2.2.2.1.length < 4611686018427387904) (h2 : c.2.2.2.2.2.2.length < 4611686018427387904) : F_chans_Leave (c, g) = some (if chOK c then (if g < 0 then (zeroC, 1) else (leaveC c g, 0)) else (zeroC, 1)) := by
  unfold F_chans_Leave
  simp only
  rw [cRight_eq c h1 h2]
  simp only [Option.bind_some]
  by_cases h : chOK c
  · rw [decide_eq_true h, if_pos h, bif_f (by rfl)]
    by_cases hg : g < 0
    · rw [bif_t (decide_eq_true hg), if_pos hg]; rfl
    · rw [bif_f (decide_eq_false hg), if_neg hg, wleave_eq c g g h.2.2.2.2.1 h.2.2.2.2.2.1 (by omega)]; rfl
  · rw [decide_eq_false h, if_neg h]; rfl
theorem rleave_eq (c : Ch) (g : Int) (h1 : c.2.2.2.2.2.1.length ≤ 70) (h2 : c.2.2.2.2.2.2.length ≤ 70) : F_plaitref09_Leave (c, g) = some (leaveC c g) := by
  unfold F_plaitref09_Leave
  simp only
  rw [refDrop_eq _ _ (by omega), refDrop_eq _ _ (by omega)]
  rfl
def closeC (c : Ch) : Ch × List W × Bool := if c.1 < 0 ∨ c.2.1 = true ∨ c.2.2.2.2.2.1.length ≠ 0 then (c, [], true) else ((c.1, true, c.2.2.1, c.2.2.2.1, c.2.2.2.2.1, c.2.2.2.2.2.1, []), c.2.2.2.2.2.2, false)
theorem close_eq (c : Ch) (h1 : c.2.2.2.2.2.1.length < 4611686018427387904) (h2 : c.2.2.2.2.2.2.length < 4611686018427387904) : F_chans_Close c = some (if chOK c then ((closeC c).1, (closeC c).2.1, (closeC c).2.2, 0) else (zeroC, [], false, 1)) := by
  unfold F_chans_Close
  rw [cRight_eq c h1 h2]
  simp only [Option.bind_some]
  by_cases h : chOK c
  · rw [decide_eq_true h, if_pos h, bif_f (by rfl)]
    unfold closeC
    by_cases b1 : c.1 < 0
    · rw [bif_t (decide_eq_true b1), if_pos (.inl b1)]
    rw [bif_f (decide_eq_false b1)]
    cases b2 : c.2.1 with
    | true => rw [cond_true, if_pos (.inr (.inl rfl))]
    | false =>
      rw [cond_false, gt0]
      by_cases b3 : c.2.2.2.2.2.1.length = 0
      · rw [decide_eq_true b3, if_neg (by simp [b1, b3])]; rfl
      · rw [decide_eq_false b3, if_pos (.inr (.inr b3))]; rfl
  · rw [decide_eq_false h, if_neg h]; rfl
theorem rclose_eq (c : Ch) (h : -1 ≤ c.1) : F_plaitref09_Close c = some (closeC c) := by
  unfold F_plaitref09_Close closeC
  by_cases b1 : c.1 < 0
  · rw [bif_t (by rw [neg1]; simp; omega), if_pos (.inl b1)]
  rw [bif_f (by rw [neg1]; simp; omega)]
  cases b2 : c.2.1 with
  | true => rw [cond_true, if_pos (.inr (.inl rfl))]
  | false =>
    rw [cond_false, gt0]
    by_cases b3 : c.2.2.2.2.2.1.length = 0
    · rw [decide_eq_true b3, if_neg (by simp [b1, b3])]; rfl
    · rw [decide_eq_false b3, if_pos (.inr (.inr b3))]; rfl
def readyC (c : Ch) (send : Bool) (g : Int) : Bool := if c.1 < 0 then false else if c.2.1 = true then true else if send = true then decide (c.2.2.1.2.2.2 ≠ c.2.2.1.1) || (c.2.2.2.2.2.2.findIdx? (notG g)).isSome else decide (c.2.2.1.2.2.2 > 0) || (c.2.2.2.2.2.1.findIdx? (notG g)).isSome
theorem other_some {l : List W} (g : Int) (hl : wOK l) : ((otherP l g).1 != -1) = (l.findIdx? (notG g)).isSome := by
  rcases other_in (g := g) hl with ⟨h1, _, h3⟩ | ⟨h1, _, _, i, _, h3, _⟩
  · rw [h3, h1]; rfl
  · rw [h3]; simpa using h1
theorem ready_eq (c : Ch) (s : Bool) (g : Int) (h1 : c.2.2.2.2.2.1.length < 4611686018427387904) (h2 : c.2.2.2.2.2.2.length < 4611686018427387904) : F_chans_Ready (c, s, g) = some (if chOK c then (if g < 0 then (false, 1) else (readyC c s g, 0)) else (false, 1)) := by
  unfold F_chans_Ready F_chans_work_isNil F_chans_work_full
  simp only
  rw [cRight_eq c h1 h2]
  simp only [Option.bind_some]
  by_cases h : chOK c
  · rw [decide_eq_true h, if_pos h, bif_f (by rfl)]
    by_cases hg : g < 0
    · rw [bif_t (decide_eq_true hg), if_pos hg]
    rw [bif_f (decide_eq_false hg), if_neg hg]
    unfold readyC
    by_cases b1 : c.1 < 0
    · rw [bif_t (decide_eq_true b1), if_pos b1]
    rw [bif_f (decide_eq_false b1), if_neg b1]
    cases b2 : c.2.1 with
    | true => rw [cond_true, if_pos rfl]
    | false =>
      rw [cond_false, if_neg (by simp)]
      cases s with
      | true =>
        rw [cond_true, if_pos rfl]
        by_cases b3 : c.2.2.1.2.2.2 = c.2.2.1.1
        · rw [bif_f (by simpa using b3), other_eq _ _ _ h.2.2.2.2.2.1 (by omega)]
          simp only [Option.bind_some]
          rw [neg1, other_some _ h.2.2.2.2.2.1, decide_eq_false (by simpa using b3)]; rfl
        · rw [bif_t (by simpa using b3), decide_eq_true b3]; rfl
      | false =>
        rw [cond_false, if_neg (by simp)]
        by_cases b3 : c.2.2.1.2.2.2 > 0
        · rw [bif_t (decide_eq_true b3), decide_eq_true b3]; rfl
        · rw [bif_f (decide_eq_false b3), decide_eq_false b3, other_eq _ _ _ h.2.2.2.2.1 (by omega)]
          simp only [Option.bind_some]
          rw [neg1, other_some _ h.2.2.2.2.1]; rfl
  · rw [decide_eq_false h, if_neg h]; rfl
theorem rready_eq (c : Ch) (s : Bool) (g : Int) (h : chOK c) : F_plaitref09_Ready (c, s, g) = some (readyC c s g) := by
  have l1 := len1 h
  have l2 := len2 h
  obtain ⟨a1, a2, a3, a4, a5, a6, a7, a8, a9, a10, a11, a12⟩ := h
  have hc : c.2.2.1.2.2.2 ≤ c.2.2.1.1 := a1.2.2.2.2.1
  unfold F_plaitref09_Ready readyC
  simp only
  by_cases b1 : c.1 < 0
  · rw [bif_t (by rw [neg1]; simp; omega), if_pos b1]
  rw [bif_f (by rw [neg1]; simp; omega), if_neg b1]
  have hcap : c.2.2.1.1 = c.1 := by rw [a4]; omega
  cases b2 : c.2.1 with
  | true => rw [cond_true, if_pos rfl]
  | false =>
    rw [cond_false, if_neg (by simp)]
    have hp : ∀ (i : Nat), decide ((i : Int) ≥ 0) = true := fun i => by simp
    cases s with
    | true =>
      rw [cond_true, if_pos rfl, refFirst_eq _ _ (by omega)]
      simp only [Option.bind_some]
      rw [hcap]
      cases hf : c.2.2.2.2.2.2.findIdx? (notG g) with
      | none =>
        show (bif false then _ else _) = _
        rw [cond_false]
        by_cases b3 : c.2.2.1.2.2.2 = c.1
        · rw [decide_eq_false (show ¬ c.2.2.1.2.2.2 < c.1 by omega), decide_eq_false (by simpa using b3)]; rfl
        · rw [decide_eq_true (show c.2.2.1.2.2.2 < c.1 by omega), decide_eq_true b3]; rfl
      | some i =>
        simp only [hp, cond_true, Option.isSome_some, Bool.or_true]
    | false =>
      rw [cond_false, if_neg (by simp), refFirst_eq _ _ (by omega)]
      simp only [Option.bind_some]
      cases hf : c.2.2.2.2.2.1.findIdx? (notG g) with
      | none => cases decide (c.2.2.1.2.2.2 > 0) <;> rfl
      | some i =>
        simp only [hp, Option.isSome_some, Bool.or_true]
        cases decide (c.2.2.1.2.2.2 > 0) <;> rfl
/-- Two channels that are the same, whatever their rings' places are. -/
structure SameC (a b : Ch) : Prop where
  cap : a.1 = b.1
  closed : a.2.1 = b.2.1
  sent : a.2.2.2.1 = b.2.2.2.1
  got : a.2.2.2.2.1 = b.2.2.2.2.1
  sends : a.2.2.2.2.2.1 = b.2.2.2.2.2.1
  recvs : a.2.2.2.2.2.2 = b.2.2.2.2.2.2
  oka : rOK a.2.2.1
  okb : rOK b.2.2.1
  bcap : a.2.2.1.1 = b.2.2.1.1
  items : rItems a.2.2.1 = rItems b.2.2.1
theorem SameC.refl {a : Ch} (h : rOK a.2.2.1) : SameC a a := ⟨rfl, rfl, rfl, rfl, rfl, rfl, h, h, rfl, rfl⟩
theorem same_true {a b : Ch} (h : SameC a b) (h1 : a.2.2.2.2.2.1.length ≤ 1000) (h2 : a.2.2.2.2.2.2.length ≤ 1000) : F_plaitref09_Same (a, b) = some true := by
  obtain ⟨e1, e2, e3, e4, e5, e6, o1, o2, e7, e8⟩ := h
  unfold F_plaitref09_Same
  simp only
  rw [bif_f (by simpa using e1), bif_f (by simpa using e2), bif_f (by simpa using e3), bif_f (by simpa using e4), same_eq (by omega)]
  simp only [Option.bind_some]
  rw [bif_f (by simpa using e5), same_eq (by omega)]
  simp only [Option.bind_some]
  rw [bif_f (by simpa using e6), rRefRight_eq]
  simp only [Option.bind_some]
  rw [bif_t (by simpa using o2), refItems_eq o2]
  simp only [Option.bind_some]
  rw [← e7, is_true o1 e8]
  rfl
end Go.Proofs.Ytgnellpcphepjaa.VX.VxD_C
