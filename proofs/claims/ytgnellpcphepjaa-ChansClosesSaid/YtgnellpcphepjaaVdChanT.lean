/- ChansTell, ChansPass: the plain forms answer true. -/
import Derived.Test.YtgnellpcphepjaaVdChan4
set_option linter.unusedVariables false
set_option linter.unusedSimpArgs false
namespace Go.Proofs.Ytgnellpcphepjaa.VX.VxD_C
open Go.Proofs
def fewC (c : Ch) : Ch := (c.1, c.2.1, (c.2.2.1.1, c.2.2.1.2.1, c.2.2.1.2.2.1.take 12, c.2.2.1.2.2.2), c.2.2.2.1, c.2.2.2.2.1, c.2.2.2.2.2.1.take 70, c.2.2.2.2.2.2.take 70)
theorem cfew_eq (c : Ch) : F_plaitlaw09_few c = some (fewC c) := by
  unfold F_plaitlaw09_few
  rw [bif_t (sub3L.2 (by omega)), bif_t (sub3L.2 (by omega)), bif_t (sub3L.2 (by omega)), cut_min _ 12 12 rfl, cut_min _ 70 70 rfl, cut_min _ 70 70 rfl]
  rfl
theorem fewC_len (c : Ch) : (fewC c).2.2.2.2.2.1.length ≤ 70 ∧ (fewC c).2.2.2.2.2.2.length ≤ 70 := by
  constructor
  · show (c.2.2.2.2.2.1.take 70).length ≤ 70; simp; omega
  · show (c.2.2.2.2.2.2.take 70).length ≤ 70; simp; omega
theorem empty_zero : F_plaitlaw09_empty zeroC = some true := rfl
theorem calive_eq : F_plaitlaw09_alive () = some true := by
  unfold F_plaitlaw09_alive
  rw [cnew_eq, if_neg (by decide)]
  simp only [Option.bind_some]
  rw [recv_eq _ _ (by decide) (by decide), if_pos (by decide)]
  simp only [Option.bind_some]
  rw [send_eq _ _ (by decide) (by decide), if_pos (by decide)]
  simp only [Option.bind_some]
  rfl
theorem pushW_len (l : List W) (w : W) : (pushW l w).1.length ≤ l.length + 1 := by
  unfold pushW
  split
  · simp
  · split <;> simp
theorem send_zero {c : Ch} {w : W} (h : (sendC c w).2.2 ≠ 0) : (sendC c w).1 = zeroC := by
  unfold sendC at h ⊢
  split
  · rename_i e; rw [if_pos e] at h; exact absurd rfl h
  · rename_i e; rw [if_neg e] at h
    split
    · rename_i e2; rw [if_pos e2] at h; exact absurd rfl h
    · rename_i e2; rw [if_neg e2] at h
      cases hf : c.2.2.2.2.2.2.findIdx? (notG w.1) with
      | some i =>
        rw [hf] at h
        simp only at h ⊢
        split
        · rfl
        · rename_i e3; rw [if_neg e3] at h; exact absurd rfl h
      | none =>
        rw [hf] at h
        simp only at h ⊢
        split
        · rename_i e3; rw [if_pos e3] at h
          unfold outS at h ⊢
          split
          · rename_i e4; rw [if_pos e4] at h; exact absurd rfl h
          · rfl
        · rename_i e3; rw [if_neg e3] at h
          split
          · rfl
          · rename_i e4; rw [if_neg e4] at h; exact absurd rfl h
theorem recv_zero {c : Ch} {w : W} (h : (recvC c w).2.2 ≠ 0) : (recvC c w).1 = zeroC := by
  unfold recvC at h ⊢
  cases hf : c.2.2.2.2.2.1.findIdx? (notG w.1) with
  | some i =>
    rw [hf] at h
    simp only at h ⊢
    split
    · rfl
    · rename_i e3; rw [if_neg e3] at h
      split
      · rename_i e4; rw [if_pos e4] at h; exact absurd rfl h
      · rename_i e4; rw [if_neg e4] at h; exact absurd rfl h
  | none =>
    rw [hf] at h
    simp only at h ⊢
    split
    · rename_i e1; rw [if_pos e1] at h; exact absurd rfl h
    · rename_i e1; rw [if_neg e1] at h
      split
      · rename_i e1; rw [if_pos e1] at h; exact absurd rfl h
      · rename_i e1; rw [if_neg e1] at h
        split
        · rename_i e1; rw [if_pos e1] at h; exact absurd rfl h
        · rename_i e1; rw [if_neg e1] at h
          unfold outR at h ⊢
          split
          · rename_i e4; rw [if_pos e4] at h; exact absurd rfl h
          · rfl
theorem send_len {c : Ch} (hc : chOK c) (w : W) : (sendC c w).1.2.2.2.2.2.1.length ≤ 1000 ∧ (sendC c w).1.2.2.2.2.2.2.length ≤ 1000 := by
  have l1 := len1 hc
  have l2 := len2 hc
  unfold sendC
  split
  · exact ⟨by simp only; omega, by simp only; omega⟩
  · split
    · exact ⟨by simp only; omega, by simp only; omega⟩
    · split
      · split
        · simp [zeroC]
        · rename_i g _ _
          have f1 := List.length_filter_le (notG (c.2.2.2.2.2.2.getD g zeroW).1) c.2.2.2.2.2.1
          have f2 := List.length_filter_le (notG (c.2.2.2.2.2.2.getD g zeroW).1) c.2.2.2.2.2.2
          exact ⟨by simp only [passC, leaveC]; omega, by simp only [passC, leaveC]; omega⟩
      · split
        · unfold outS
          have := pushW_len c.2.2.2.2.2.1 w
          split
          · exact ⟨by simp only; omega, by simp only; omega⟩
          · simp [zeroC]
        · split
          · simp [zeroC]
          · exact ⟨by simp only [pushC]; omega, by simp only [pushC]; omega⟩
theorem recv_len {c : Ch} (hc : chOK c) (w : W) : (recvC c w).1.2.2.2.2.2.1.length ≤ 1000 ∧ (recvC c w).1.2.2.2.2.2.2.length ≤ 1000 := by
  have l1 := len1 hc
  have l2 := len2 hc
  unfold recvC
  split
  · rename_i g _
    have f1 := List.length_filter_le (notG (c.2.2.2.2.2.1.getD g zeroW).1) c.2.2.2.2.2.1
    have f2 := List.length_filter_le (notG (c.2.2.2.2.2.1.getD g zeroW).1) c.2.2.2.2.2.2
    split
    · simp [zeroC]
    · split
      · exact ⟨by simp only [pushC, popC, leaveC]; omega, by simp only [pushC, popC, leaveC]; omega⟩
      · exact ⟨by simp only [passC, leaveC]; omega, by simp only [passC, leaveC]; omega⟩
  · split
    · exact ⟨by simp only; omega, by simp only; omega⟩
    · split
      · exact ⟨by simp only [popC]; omega, by simp only [popC]; omega⟩
      · split
        · exact ⟨by simp only; omega, by simp only; omega⟩
        · unfold outR
          have := pushW_len c.2.2.2.2.2.2 w
          split
          · exact ⟨by simp only; omega, by simp only; omega⟩
          · simp [zeroC]
theorem chansPass (c0 : Ch) (w : W) : F_plaitlaw09_ChansPass (c0, w) = some true := by
  unfold F_plaitlaw09_ChansPass
  simp only
  rw [cfew_eq]
  have hl := fewC_len c0
  generalize fewC c0 = c at *
  simp only [Option.bind_some]
  rw [send_eq c w (by omega) (by omega), recv_eq c w (by omega) (by omega), rRight_eq c hl.1 hl.2, may_eq w, calive_eq]
  simp only [Option.bind_some]
  by_cases h : chOK c
  · rw [decide_eq_true h, bif_f (by rfl)]
    by_cases hw : isW w
    · rw [decide_eq_true hw, bif_f (by rfl), if_pos ⟨h, hw⟩, if_pos ⟨h, hw⟩]
      obtain ⟨x, hx, sx⟩ := rsend_eq c w h hw
      obtain ⟨y, hy, sy⟩ := rrecv_eq c w h hw
      rw [hx, hy]
      simp only [Option.bind_some]
      rw [bif_f (by simp), bif_f (by simp), bif_f (by simp), bif_f (by simp), bif_f (by rfl)]
      have lx := send_len h w
      have ly := recv_len h w
      have fin : (bif ((recvC c w).2.2 != 0) then (F_plaitlaw09_empty (recvC c w).1).bind fun r10 => bif r10 then some true else bif ((recvC c w).2.2 == 0) then (F_plaitref09_Same ((recvC c w).1, y)).bind fun r11 => some r11 else some false
          else bif ((recvC c w).2.2 == 0) then (F_plaitref09_Same ((recvC c w).1, y)).bind fun r10 => some r10 else some false) = some true := by
        by_cases e : (recvC c w).2.2 = 0
        · rw [bif_f (by simpa using e), bif_t (by simpa using e), same_true (sy e) ly.1 ly.2]; rfl
        · rw [bif_t (by simpa using e), recv_zero e]; rfl
      by_cases e : (sendC c w).2.2 = 0
      · rw [bif_f (by simpa using e), bif_t (by simpa using e), same_true (sx e) lx.1 lx.2]
        simp only [Option.bind_some, cond_true]
        exact fin
      · rw [bif_t (by simpa using e), send_zero e, empty_zero]
        simp only [Option.bind_some, cond_true]
        exact fin
    · rw [decide_eq_false hw, if_neg (fun e => hw e.2), if_neg (fun e => hw e.2)]
      rfl
  · rw [decide_eq_false h, if_neg (fun e => h e.1), if_neg (fun e => h e.1)]
    rfl
theorem close_len {c : Ch} (hc : chOK c) : (closeC c).1.2.2.2.2.2.1.length ≤ 1000 ∧ (closeC c).1.2.2.2.2.2.2.length ≤ 1000 ∧ (closeC c).2.1.length ≤ 1000 := by
  have l1 := len1 hc
  have l2 := len2 hc
  unfold closeC
  split
  · exact ⟨by simp only; omega, by simp only; omega, by simp⟩
  · exact ⟨by simp only; omega, by simp, by simp only; omega⟩
theorem close_rok {c : Ch} (hc : chOK c) : rOK (closeC c).1.2.2.1 := by
  have := hc.1
  unfold closeC
  split <;> exact this
theorem chansTell (n : Int) (c0 : Ch) (s : Bool) (g : Int) : F_plaitlaw09_ChansTell (n, c0, s, g) = some true := by
  unfold F_plaitlaw09_ChansTell
  simp only
  rw [cfew_eq]
  have hl := fewC_len c0
  generalize fewC c0 = c at *
  simp only [Option.bind_some]
  rw [cnew_eq n, ready_eq c s g (by omega) (by omega), close_eq c (by omega) (by omega), cleave_eq c g (by omega) (by omega), rRight_eq c hl.1 hl.2, cRight_eq c (by omega) (by omega), calive_eq]
  simp only [Option.bind_some]
  rw [bif_f (by simp), bif_f (by rfl)]
  -- what comes behind the new one
  have tail : (bif (Bool.not (decide (chOK c))) then
      bif ((if chOK c then (if g < 0 then (false, (1 : Int)) else (readyC c s g, 0)) else (false, 1)).2 == 1) then
      bif ((if chOK c then ((closeC c).1, (closeC c).2.1, (closeC c).2.2, (0 : Int)) else (zeroC, [], false, 1)).2.2.2 == 1) then
      bif ((if chOK c then (if g < 0 then (zeroC, (1 : Int)) else (leaveC c g, 0)) else (zeroC, 1)).2 == 1) then
      bif (Bool.not (if chOK c then (if g < 0 then (false, (1 : Int)) else (readyC c s g, 0)) else (false, 1)).1) then
        (F_plaitlaw09_empty (if chOK c then ((closeC c).1, (closeC c).2.1, (closeC c).2.2, (0 : Int)) else (zeroC, [], false, 1)).1).bind fun r10 =>
        bif r10 then bif (((((if chOK c then ((closeC c).1, (closeC c).2.1, (closeC c).2.2, (0 : Int)) else (zeroC, [], false, 1)).2.1).length : Nat) : Int) == 0) then
          bif (Bool.not (if chOK c then ((closeC c).1, (closeC c).2.1, (closeC c).2.2, (0 : Int)) else (zeroC, [], false, 1)).2.2.1) then
            (F_plaitlaw09_empty (if chOK c then (if g < 0 then (zeroC, (1 : Int)) else (leaveC c g, 0)) else (zeroC, 1)).1).bind fun r11 => some r11
          else some false else some false else some false
      else some false else some false else some false else some false
    else
      (F_plaitref09_Close c).bind fun r10 =>
      bif ((if chOK c then ((closeC c).1, (closeC c).2.1, (closeC c).2.2, (0 : Int)) else (zeroC, [], false, 1)).2.2.2 != 0) then some false
      else bif (Bool.not ((if chOK c then ((closeC c).1, (closeC c).2.1, (closeC c).2.2, (0 : Int)) else (zeroC, [], false, 1)).2.2.1 == r10.2.2)) then some false
      else (F_plaitref05_Same ((if chOK c then ((closeC c).1, (closeC c).2.1, (closeC c).2.2, (0 : Int)) else (zeroC, [], false, 1)).2.1, r10.2.1)).bind fun r11 =>
      bif (Bool.not r11) then some false else
      (F_plaitref09_Same ((if chOK c then ((closeC c).1, (closeC c).2.1, (closeC c).2.2, (0 : Int)) else (zeroC, [], false, 1)).1, r10.1)).bind fun r12 =>
      bif (Bool.not r12) then some false else
      bif (decide (g < 0)) then
        bif ((if chOK c then (if g < 0 then (false, (1 : Int)) else (readyC c s g, 0)) else (false, 1)).2 == 1) then
        bif ((if chOK c then (if g < 0 then (zeroC, (1 : Int)) else (leaveC c g, 0)) else (zeroC, 1)).2 == 1) then
        bif (Bool.not (if chOK c then (if g < 0 then (false, (1 : Int)) else (readyC c s g, 0)) else (false, 1)).1) then
          (F_plaitlaw09_empty (if chOK c then (if g < 0 then (zeroC, (1 : Int)) else (leaveC c g, 0)) else (zeroC, 1)).1).bind fun r13 => some r13
        else some false else some false else some false
      else
        bif ((if chOK c then (if g < 0 then (false, (1 : Int)) else (readyC c s g, 0)) else (false, 1)).2 == 0) then
        bif ((if chOK c then (if g < 0 then (zeroC, (1 : Int)) else (leaveC c g, 0)) else (zeroC, 1)).2 == 0) then
          (F_plaitref09_Ready (c, s, g)).bind fun r13 =>
          bif ((if chOK c then (if g < 0 then (false, (1 : Int)) else (readyC c s g, 0)) else (false, 1)).1 == r13) then
            (F_plaitref09_Leave (c, g)).bind fun r14 =>
            (F_plaitref09_Same ((if chOK c then (if g < 0 then (zeroC, (1 : Int)) else (leaveC c g, 0)) else (zeroC, 1)).1, r14)).bind fun r15 => some r15
          else some false else some false else some false) = some true := by
    by_cases h : chOK c
    · have hcl := close_len h
      rw [decide_eq_true h, bif_f (by rfl), rclose_eq c h.2.1]
      simp only [if_pos h, Option.bind_some]
      rw [bif_f (by rfl), bif_f (by simp), same_eq (by omega)]
      simp only [Option.bind_some]
      rw [bif_f (by simp), same_true (SameC.refl (close_rok h)) hcl.1 hcl.2.1]
      simp only [Option.bind_some]
      rw [bif_f (by rfl)]
      by_cases hg : g < 0
      · rw [bif_t (decide_eq_true hg)]
        simp only [if_pos hg]
        rfl
      · rw [bif_f (decide_eq_false hg)]
        simp only [if_neg hg]
        have lo := leave_ok h g
        have q1 := len1 lo
        have q2 := len2 lo
        rw [bif_t (by rfl), bif_t (by rfl), rready_eq c s g h]
        simp only [Option.bind_some]
        rw [bif_t (by simp), rleave_eq c g hl.1 hl.2]
        simp only [Option.bind_some]
        rw [same_true (SameC.refl lo.1) (by omega) (by omega)]
        rfl
    · rw [decide_eq_false h]
      simp only [if_neg h]
      rfl
  by_cases h1 : n < -1
  · rw [neg1, bif_t (decide_eq_true h1), if_pos (.inl h1)]
    simp only
    rw [bif_f (by rfl), empty_zero]
    simp only [Option.bind_some]
    rw [bif_f (by rfl)]
    exact tail
  · rw [neg1, bif_f (decide_eq_false h1)]
    by_cases h2 : n > 3
    · rw [bif_t (decide_eq_true h2), if_pos (.inr h2)]
      simp only
      rw [bif_f (by rfl), empty_zero]
      simp only [Option.bind_some]
      rw [bif_f (by rfl)]
      exact tail
    · rw [bif_f (decide_eq_false h2), if_neg (by omega), rnew_eq n (by omega) (by omega)]
      simp only [Option.bind_some]
      rw [bif_f (by rfl), same_true (SameC.refl (newC_rok n (by omega))) (by simp [newC]) (by simp [newC])]
      simp only [Option.bind_some]
      rw [bif_f (by rfl)]
      exact tail
abbrev tyCh : Ty := .pair (.int .i64) (.pair .bool (.pair (.pair (.int .i64) (.pair (.int .i64) (.pair (.slice (.int .i64)) (.int .i64)))) (.pair (.int .i64) (.pair (.int .i64) (.pair (.slice (.pair (.int .i64) (.pair (.int .i64) (.int .i64)))) (.slice (.pair (.int .i64) (.pair (.int .i64) (.int .i64)))))))))
theorem chansPass_law (x : HL [tyCh, .pair (.int .i64) (.pair (.int .i64) (.int .i64))]) (h : wfHL [tyCh, .pair (.int .i64) (.pair (.int .i64) (.int .i64))] x) : F_plaitlaw09_ChansPass x = some true := chansPass x.1 x.2
theorem chansTell_law (x : HL [.int .i64, tyCh, .bool, .int .i64]) (h : wfHL [.int .i64, tyCh, .bool, .int .i64] x) : F_plaitlaw09_ChansTell x = some true := chansTell x.1 x.2.1 x.2.2.1 x.2.2.2
end Go.Proofs.Ytgnellpcphepjaa.VX.VxD_C
