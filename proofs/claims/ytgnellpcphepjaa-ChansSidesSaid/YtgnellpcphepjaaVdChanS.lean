/- ChansSides, ChansCloses: the plain forms answer true. -/
import Derived.Test.YtgnellpcphepjaaVdChanT
set_option linter.unusedVariables false
set_option linter.unusedSimpArgs false
namespace Go.Proofs.Ytgnellpcphepjaa.VX.VxD_C
open Go.Proofs
theorem filt_same (l : List W) (g : Int) : (l.filter (notG g)).filter (notG g) = l.filter (notG g) := by
  rw [List.filter_filter]; congr 1; funext w; simp
theorem filt_comm (l : List W) (g o : Int) : (l.filter (notG g)).filter (notG o) = (l.filter (notG o)).filter (notG g) := by
  rw [List.filter_filter, List.filter_filter]; congr 1; funext w; exact Bool.and_comm _ _
theorem filt_first (l : List W) (g : Int) : ((l.filter (notG g)).findIdx? (notG g)).isSome = (l.findIdx? (notG g)).isSome := by
  rw [List.findIdx?_isSome, List.findIdx?_isSome, List.any_filter]
  congr 1; funext w; simp
theorem leave2 (c : Ch) (g : Int) : leaveC (leaveC c g) g = leaveC c g := by
  unfold leaveC
  simp only [filt_same]
theorem leave_comm (c : Ch) (g o : Int) : leaveC (leaveC c g) o = leaveC (leaveC c o) g := by
  unfold leaveC
  simp only
  rw [filt_comm, filt_comm c.2.2.2.2.2.2]
theorem ready_leave (c : Ch) (s : Bool) (g : Int) : readyC (leaveC c g) s g = readyC c s g := by
  unfold readyC leaveC
  simp only [filt_first]
theorem cs13 (g o : Int) (c a : Ch) (l : List W) (hl : l.length ≤ 1000) (h : ∀ w ∈ l, w.1 ≠ g) : loop L_plaitlaw09_ChansSides_13 (g, o, (l.length : Int), 0, c, a, l) = some (.inr (g, o, c, a)) := by
  refine loop_count (f := L_plaitlaw09_ChansSides_13) l.length (fun k => (g, o, (l.length : Int), (k : Int), c, a, l)) _ (fun k hk => ?_) ?_ 0 (Nat.zero_le _)
  · unfold L_plaitlaw09_ChansSides_13
    simp only
    have hg : getAt ((0 : Int), ((0 : Int), (0 : Int))) l k = l[k] := getAtL _ hk
    rw [bif_t (by simpa using hk), bif_t (inb_nat hk), toN_nat, hg, bif_f (by simpa using h _ (List.getElem_mem hk)), wrapI (by omega) (by omega)]
    rfl
  · unfold L_plaitlaw09_ChansSides_13
    simp only
    rw [bif_f (by simp)]
theorem chansSides (c0 : Ch) (g0 o0 : Int) (s : Bool) : F_plaitlaw09_ChansSides (c0, g0, o0, s) = some true := by
  unfold F_plaitlaw09_ChansSides
  simp only
  rw [cfew_eq]
  have hl := fewC_len c0
  generalize fewC c0 = c at *
  have hG := tm5 g0 8 (by omega) (by omega)
  have hO := tm5 o0 8 (by omega) (by omega)
  generalize Int.tmod (IntKind.wrap .i64 (Int.tmod g0 8 + 8)) 8 = g at *
  generalize Int.tmod (IntKind.wrap .i64 (Int.tmod o0 8 + 8)) 8 = o at *
  simp only [Option.bind_some]
  rw [cleave_eq c g (by omega) (by omega), calive_eq]
  simp only [Option.bind_some]
  by_cases h : chOK c
  · rw [if_pos h, if_neg (by omega)]
    have ha := leave_ok h g
    have ho := leave_ok h o
    have hao := leave_ok ha o
    have q1 := len1 ha
    have q2 := len2 ha
    have q3 := len1 ho
    have q4 := len2 ho
    have q5 := len1 hao
    have q6 := len2 hao
    rw [bif_f (by rfl), cleave_eq (leaveC c g) g (by omega) (by omega), ready_eq (leaveC c g) s g (by omega) (by omega), ready_eq c s g (by omega) (by omega), if_pos ha, if_pos ha, if_pos h, if_neg (by omega), if_neg (by omega), if_neg (by omega)]
    simp only [Option.bind_some]
    rw [bif_f (by rfl), bif_f (by rfl), bif_f (by rfl), ready_leave, bif_f (by simp), leave2, same_true (SameC.refl ha.1) (by omega) (by omega)]
    simp only [Option.bind_some]
    rw [bif_f (by rfl), cRight_eq _ (by omega) (by omega), decide_eq_true ha]
    simp only [Option.bind_some]
    rw [bif_f (by rfl), bif_f (by rfl), bif_t (fits_iff.2 (by simp; omega)), bif_t (fits_iff.2 (by simp; omega))]
    rw [cs13 g o c (leaveC c g) (([] ++ (leaveC c g).2.2.2.2.2.1) ++ (leaveC c g).2.2.2.2.2.2) (by simp; omega) (fun w hw => by
      rw [List.nil_append] at hw
      have : notG g w = true := by
        rcases List.mem_append.1 hw with hw | hw
        · exact (List.mem_filter.1 hw).2
        · exact (List.mem_filter.1 hw).2
      unfold notG at this
      simpa using this)]
    simp only [Option.bind_some]
    rw [cleave_eq (leaveC c g) o (by omega) (by omega), cleave_eq c o (by omega) (by omega), if_pos ha, if_pos h, if_neg (by omega), if_neg (by omega)]
    simp only [Option.bind_some]
    rw [bif_f (by rfl), bif_f (by rfl), cleave_eq (leaveC c o) g (by omega) (by omega), if_pos ho, if_neg (by omega)]
    simp only [Option.bind_some]
    rw [bif_t (by rfl), leave_comm c o g, same_true (SameC.refl hao.1) (by omega) (by omega)]
    simp only [Option.bind_some, cond_true]
    rw [rRefRight_eq, decide_eq_true hao.1]
    rfl
  · rw [if_neg h]
    rfl
theorem close_ok {c : Ch} (h : chOK c) (h1 : ¬ c.1 < 0) (h2 : c.2.2.2.2.2.1.length = 0) : chOK (c.1, true, c.2.2.1, c.2.2.2.1, c.2.2.2.2.1, c.2.2.2.2.2.1, []) := by
  obtain ⟨a1, a2, a3, a4, a5, a6, a7, a8, a9, a10, a11, a12⟩ := h
  refine ⟨a1, a2, a3, a4, a5, ⟨by simp, by simp, by simp⟩, a7, a8, a9, a10, a11, ?_⟩
  unfold sidesOK
  simp only [if_neg h1, if_true]
  exact ⟨h2, rfl⟩
theorem pop_ok {c : Ch} (h : chOK c) (h1 : ¬ c.1 < 0) (h2 : c.2.1 = true) (hf : c.2.2.1.2.2.2 > 0) : chOK (popC c) := by
  have hc := cnt_of h
  have hp := popped_items h.1 (by omega)
  have hi := items_len c.2.2.1
  obtain ⟨a1, a2, a3, a4, a5, a6, a7, a8, a9, a10, a11, a12⟩ := h
  have hk : ∃ m, (rItems c.2.2.1).length = m + 1 := ⟨(rItems c.2.2.1).length - 1, by omega⟩
  obtain ⟨m, hm⟩ := hk
  have hx := a11.1
  rw [hm, seqI_cons, hp] at hx
  obtain ⟨h3, h4⟩ := List.cons.inj hx
  have hm2 : (rItems (popped c.2.2.1)).length = m := by rw [h4, seqI_len]
  refine ⟨popped_ok a1 (by omega), a2, a3, a4, a5, a6, a7, a8, by show 0 ≤ c.2.2.2.2.1 + 1; omega, by show c.2.2.2.2.1 + 1 ≤ c.2.2.2.1; omega, ⟨?_, ?_⟩, ?_⟩
  · show rItems (popped c.2.2.1) = seqI (c.2.2.2.2.1 + 1) (rItems (popped c.2.2.1)).length
    rw [hm2]; exact h4
  · show ((rItems (popped c.2.2.1)).length : Int) = c.2.2.2.1 - (c.2.2.2.2.1 + 1)
    rw [hm2]
    have := a11.2
    omega
  · unfold sidesOK at a12 ⊢
    rw [if_neg h1, if_pos h2] at a12
    show if c.1 < 0 then _ else if c.2.1 = true then c.2.2.2.2.2.1.length = 0 ∧ c.2.2.2.2.2.2.length = 0 else _
    rw [if_neg h1, if_pos h2]
    exact a12
theorem closed_sends {c : Ch} (h : chOK c) (h1 : ¬ c.1 < 0) (h2 : c.2.1 = true) (w : W) : c.2.2.2.2.2.1.findIdx? (notG w.1) = none := by
  have := h.2.2.2.2.2.2.2.2.2.2.2
  unfold sidesOK at this
  rw [if_neg h1, if_pos h2] at this
  rw [List.length_eq_zero_iff.1 this.1]; rfl
theorem cc10 (g m : Int) (hg : 0 ≤ g) (c a : Ch) (ha : chOK a) (h1 : ¬ a.1 < 0) (h2 : a.2.1 = true) (hs : a.2.2.2.1 = c.2.2.2.1) (hgot : a.2.2.2.2.1 = c.2.2.2.2.1) :
    ∃ b, loop L_plaitlaw09_ChansCloses_10 (g, m, c.2.2.2.2.1, c, a) = some (.inr (g, m, b)) ∧ chOK b ∧ ¬ b.1 < 0 ∧ b.2.1 = true ∧ b.2.2.1.2.2.2 = 0 := by
  obtain ⟨y, e1, b, e2, e3⟩ := loop_rule (f := L_plaitlaw09_ChansCloses_10) (fun x => ∃ b : Ch, x = (g, m, b.2.2.2.2.1, c, b) ∧ chOK b ∧ ¬ b.1 < 0 ∧ b.2.1 = true ∧ b.2.2.2.1 = c.2.2.2.1 ∧ c.2.2.2.2.1 ≤ b.2.2.2.2.1) (fun y => ∃ b : Ch, y = .inr (g, m, b) ∧ chOK b ∧ ¬ b.1 < 0 ∧ b.2.1 = true ∧ b.2.2.1.2.2.2 = 0) (fun x => (c.2.2.2.1 - x.2.2.1).toNat) (by
    rintro x ⟨b, rfl, hb, b1, b2, b3, b4⟩
    have hcnt := cnt_of hb
    have hca := cnt_of ha
    have hr := ha.1
    obtain ⟨a1, a2, a3, a4, a5, a6, a7, a8, a9, a10, a11, a12⟩ := hb
    have hcap : c.2.2.2.1 ≤ c.2.2.2.2.1 + 8 := by obtain ⟨_, _, _, _, _, _⟩ := hr; omega
    unfold L_plaitlaw09_ChansCloses_10
    simp only
    by_cases hlt : b.2.2.2.2.1 < c.2.2.2.1
    · left
      have hf : b.2.2.1.2.2.2 > 0 := by omega
      have hb : chOK b := ⟨a1, a2, a3, a4, a5, a6, a7, a8, a9, a10, a11, a12⟩
      have l1 := len1 hb
      have l2 := len2 hb
      have hrc : recvC b (g, 0, 0) = (popC b, (1, first b.2.2.1, nobody, 0), 0) := by
        unfold recvC
        rw [closed_sends hb b1 b2]
        simp only
        rw [if_neg b1, if_pos hf]
      rw [bif_t (decide_eq_true hlt), wrapI (n := c.2.2.2.2.1 + 8) (by omega) (by omega), bif_t (decide_eq_true (by omega)), recv_eq _ _ (by omega) (by omega), if_pos ⟨hb, hg, Int.le_refl _, Int.le_refl _⟩, hrc, (same_pop hb hf).2]
      simp only [Option.bind_some]
      rw [bif_f (by rfl), bif_f (by rfl), bif_f (by simp), bif_f (by rfl), wrapI (by omega) (by omega)]
      refine ⟨_, rfl, ⟨popC b, rfl, pop_ok hb b1 b2 hf, b1, b2, b3, by show c.2.2.2.2.1 ≤ b.2.2.2.2.1 + 1; omega⟩, ?_⟩
      show (c.2.2.2.1 - (b.2.2.2.2.1 + 1)).toNat < (c.2.2.2.1 - b.2.2.2.2.1).toNat
      omega
    · right
      rw [bif_f (decide_eq_false hlt)]
      exact ⟨_, rfl, b, rfl, ⟨a1, a2, a3, a4, a5, a6, a7, a8, a9, a10, a11, a12⟩, b1, b2, by omega⟩) (g, m, c.2.2.2.2.1, c, a) ⟨a, by rw [hgot], ha, h1, h2, hs, by omega⟩
  exact ⟨b, by rw [e1, e2], e3⟩
theorem cc17 (g m : Int) (hg : 0 ≤ g ∧ g < 8) (hm : 0 ≤ m ∧ m ≤ 10) (b : Ch) (hb : chOK b) (b1 : ¬ b.1 < 0) (b2 : b.2.1 = true) (b3 : b.2.2.1.2.2.2 = 0) : loop L_plaitlaw09_ChansCloses_17 (g, m, 0, b) = some (.inr ()) := by
  have l1 := len1 hb
  have l2 := len2 hb
  refine loop_count (f := L_plaitlaw09_ChansCloses_17) m.toNat (fun k => (g, m, (k : Int), b)) _ (fun k hk => ?_) ?_ 0 (Nat.zero_le _)
  · have hrc : recvC b (g + (k : Int), 0, 0) = (b, (2, 0, nobody, 0), 0) := by
      unfold recvC
      rw [closed_sends hb b1 b2]
      simp only
      rw [if_neg b1, if_neg (by omega), if_pos b2]
    have hsc : sendC b (g + (k : Int), 0, 0) = (b, (3, 0, nobody, 0), 0) := by
      unfold sendC
      rw [if_neg b1, if_pos b2]
    have hw : isW (g + (k : Int), 0, 0) := ⟨by simp only; omega, Int.le_refl _, Int.le_refl _⟩
    have hcl : closeC b = (b, [], true) := by unfold closeC; rw [if_pos (.inr (.inl b2))]
    unfold L_plaitlaw09_ChansCloses_17
    simp only
    rw [bif_t (decide_eq_true (by omega)), wrapI (n := g + (k : Int)) (by omega) (by omega), wrapI (n := (k : Int) + 1) (by omega) (by omega), recv_eq _ _ (by omega) (by omega), send_eq _ _ (by omega) (by omega), close_eq _ (by omega) (by omega), if_pos ⟨hb, hw⟩, if_pos ⟨hb, hw⟩, if_pos hb, hrc, hsc, hcl]
    rfl
  · unfold L_plaitlaw09_ChansCloses_17
    simp only
    rw [bif_f (decide_eq_false (by omega))]
theorem chansCloses (c0 : Ch) (g0 m0 : Int) : F_plaitlaw09_ChansCloses (c0, g0, m0) = some true := by
  unfold F_plaitlaw09_ChansCloses
  simp only
  rw [cfew_eq]
  have hl := fewC_len c0
  generalize fewC c0 = c at *
  have hG := tm5 g0 8 (by omega) (by omega)
  have hM := tm5 m0 4 (by omega) (by omega)
  generalize Int.tmod (IntKind.wrap .i64 (Int.tmod g0 8 + 8)) 8 = g at *
  generalize Int.tmod (IntKind.wrap .i64 (Int.tmod m0 4 + 4)) 4 = m at *
  simp only [Option.bind_some]
  rw [close_eq c (by omega) (by omega), calive_eq, wrapI (n := 1 + m) (by omega) (by omega)]
  simp only [Option.bind_some]
  by_cases h : chOK c
  · rw [if_pos h]
    by_cases hp : c.1 < 0 ∨ c.2.1 = true ∨ c.2.2.2.2.2.1.length ≠ 0
    · have hc : closeC c = (c, [], true) := by unfold closeC; rw [if_pos hp]
      rw [hc]
      rfl
    · have hc : closeC c = ((c.1, true, c.2.2.1, c.2.2.2.1, c.2.2.2.2.1, c.2.2.2.2.2.1, []), c.2.2.2.2.2.2, false) := by unfold closeC; rw [if_neg hp]
      have p1 : ¬ c.1 < 0 := fun e => hp (.inl e)
      have p2 : c.2.1 = false := by
        cases hq : c.2.1 with
        | true => exact absurd (.inr (.inl hq)) hp
        | false => rfl
      have p3 : c.2.2.2.2.2.1.length = 0 := Classical.byContradiction fun e => hp (.inr (.inr e))
      rw [hc]
      simp only
      obtain ⟨b, e1, e2, e3, e4, e5⟩ := cc10 g (1 + m) hG.1 c (c.1, true, c.2.2.1, c.2.2.2.1, c.2.2.2.2.1, c.2.2.2.2.2.1, []) (close_ok h p1 p3) p1 rfl rfl rfl
      have tail : (bif (c.2.2.2.1 != c.2.2.2.1) then some false else bif (Bool.not true) then some false else bif (Bool.not true) then some false else
          (loop L_plaitlaw09_ChansCloses_10 (g, 1 + m, c.2.2.2.2.1, c, (c.1, true, c.2.2.1, c.2.2.2.1, c.2.2.2.2.1, c.2.2.2.2.2.1, []))).bind fun r4 => match r4 with
          | .inl y5 => some y5
          | .inr y5 => (loop L_plaitlaw09_ChansCloses_17 (y5.1, y5.2.1, 0, y5.2.2)).bind fun r6 => match r6 with
            | .inl y7 => some y7
            | .inr y7 => some true) = some true := by
        rw [bif_f (by simp), bif_f (by rfl), bif_f (by rfl), e1]
        simp only [Option.bind_some]
        rw [cc17 g (1 + m) ⟨hG.1, hG.2⟩ (by omega) b e2 e3 e4 e5]
        rfl
      rw [bif_f (by rfl), cond_false, gt0]
      by_cases q : c.2.2.2.2.2.2.length = 0
      · rw [decide_eq_true q]
        exact tail
      · rw [decide_eq_false q]
        have hcnt := cnt_of h
        have hz : c.2.2.1.2.2.2 = 0 := by
          have := h.2.2.2.2.2.2.2.2.2.2.2
          unfold sidesOK at this
          rw [if_neg p1, p2, if_neg (by simp)] at this
          rcases this.2 with e | e
          · exact absurd e q
          · exact e
        rw [Bool.not_false, cond_true, bif_f (by simp; omega)]
        exact tail
  · rw [if_neg h]
    rfl
theorem chansSides_law (x : HL [tyCh, .int .i64, .int .i64, .bool]) (h : wfHL [tyCh, .int .i64, .int .i64, .bool] x) : F_plaitlaw09_ChansSides x = some true := chansSides x.1 x.2.1 x.2.2.1 x.2.2.2
theorem chansCloses_law (x : HL [tyCh, .int .i64, .int .i64]) (h : wfHL [tyCh, .int .i64, .int .i64] x) : F_plaitlaw09_ChansCloses x = some true := chansCloses x.1 x.2.1 x.2.2
end Go.Proofs.Ytgnellpcphepjaa.VX.VxD_C
