/- Plain laws of trace: what the judge writes down, and the first event that is wrong. -/
import Derived.Test.YtkeolcgggondnaaVpTrB
set_option linter.unusedVariables false
set_option linter.unusedSimpArgs false
namespace Go.Proofs.Ytkeolcgggondnaa.VX.VxF_T
open Go.Proofs
theorem beq_ii (a b : Int) : Ty.beq (.int .i64) a b = true ↔ a = b := by
  show ((a == b) = true) ↔ _
  simp
theorem beq_pp (a b : Int × Int) : Ty.beq (.pair (.int .i64) (.int .i64)) a b = true ↔ a = b := by
  show ((a.1 == b.1 && a.2 == b.2) = true) ↔ _
  obtain ⟨a1, a2⟩ := a; obtain ⟨b1, b2⟩ := b
  simp
theorem look_put (k o : Int) (u : Int) (k' o' : Int) (l : List ((Int × Int) × Int)) : lookC k' o' (@mput (Int × Int) Int (Ty.beq (.pair (.int .i64) (.int .i64))) (k, o) u l) = if k' = k ∧ o' = o then u else lookC k' o' l := by
  refine (mput_look (α := Int) (κ := Int × Int) (z := 0) beq_pp (k, o) u (k', o') l).trans ?_
  show (if (k', o') = (k, o) then u else lookC k' o' l) = _
  by_cases h : k' = k ∧ o' = o
  · rw [if_pos h, if_pos (by rw [h.1, h.2])]
  · rw [if_neg h, if_neg (fun e => h ⟨congrArg Prod.fst e, congrArg Prod.snd e⟩)]
theorem lookF_put (o : Int) (u : Int) (o' : Int) (l : List (Int × Int)) : lookF o' (@mput Int Int (Ty.beq (.int .i64)) o u l) = if o' = o then u else lookF o' l := by
  exact mput_look (α := Int) (κ := Int) (z := 0) beq_ii o u o' l
/-- One event more. -/
theorem JOK_app {caps : List Int} {l : List Ev} {s : St} (hJ : JOK caps l s) (e : Ev) (g0 : 0 ≤ e.1) (g1 : e.1 ≤ 7) (hl : l.length < 1000) (hG : ∀ x ∈ l, 0 ≤ x.1)
    (b : Int) (hb : b = if e.2.1 = 0 then s.2.2.1 + 1 else s.2.2.1) (f : List (Int × Int))
    (hf : ∀ o, lookF o f = if e.2.1 = 13 ∧ e.2.2.1 = o ∧ firstE o l = 0 then e.1 + 1 else lookF o s.2.2.2.2.1) :
    JOK caps (l ++ [e]) (s.1, s.2.1.set (toN e.1) (l.length + 1), b, mset (@mput (Int × Int) Int (Ty.beq (.pair (.int .i64) (.int .i64))) (e.2.1, e.2.2.1) (lookC e.2.1 e.2.2.1 s.2.2.2.1) s.2.2.2.1) (toN (natI (@mpos (Int × Int) Int (Ty.beq (.pair (.int .i64) (.int .i64))) (e.2.1, e.2.2.1) s.2.2.2.1))) (lookC e.2.1 e.2.2.1 s.2.2.2.1 + 1), f, s.2.2.2.2.2) where
  caps := hJ.caps
  len := by simp [hJ.len]
  last := by
    intro g hg
    rw [lastE_app]
    show (s.2.1.set (toN e.1) (l.length + 1)).getD g 0 = _
    by_cases h : e.1 = g
    · rw [if_pos h, show toN e.1 = g by unfold toN; omega]
      simp [List.getD, hJ.len, hg]
    · rw [if_neg h, ← hJ.last g hg]
      have : toN e.1 ≠ g := by unfold toN; omega
      simp [List.getD, List.getElem?_set, this]
  begun := by
    show b = _
    rw [hb, cntK_app, hJ.begun]
    split <;> simp
  count := by
    intro k o
    show lookC k o (mset _ (toN (natI _)) _) = _
    rw [show mset (@mput (Int × Int) Int (Ty.beq (.pair (.int .i64) (.int .i64))) (e.2.1, e.2.2.1) (lookC e.2.1 e.2.2.1 s.2.2.2.1) s.2.2.2.1) (toN (natI (@mpos (Int × Int) Int (Ty.beq (.pair (.int .i64) (.int .i64))) (e.2.1, e.2.2.1) s.2.2.2.1))) (lookC e.2.1 e.2.2.1 s.2.2.2.1 + 1) = @mput (Int × Int) Int (Ty.beq (.pair (.int .i64) (.int .i64))) (e.2.1, e.2.2.1) (lookC e.2.1 e.2.2.1 s.2.2.2.1 + 1) s.2.2.2.1 from mset_mput _ _ _, look_put, cntE_app, hJ.count, hJ.count]
    by_cases h : k = e.2.1 ∧ o = e.2.2.1
    · rw [if_pos h, if_pos ⟨h.1.symm, h.2.symm⟩, h.1, h.2]; simp
    · rw [if_neg h, if_neg (fun q => h ⟨q.1.symm, q.2.symm⟩)]; simp
  first := by
    intro o
    show lookF o f = _
    rw [hf, firstE_app o e l hG, hJ.first]
    by_cases h : firstE o l = 0
    · rw [if_pos h]
      by_cases h2 : e.2.1 = 13 ∧ e.2.2.1 = o
      · rw [if_pos h2, if_pos ⟨h2.1, h2.2, h⟩]
      · rw [if_neg h2, if_neg (fun q => h2 ⟨q.1, q.2.1⟩), h]
    · rw [if_neg h, if_neg (fun q => h q.2.2)]
  orig := hJ.orig
theorem may_eq {caps : List Int} {l : List Ev} {s : St} (hJ : JOK caps l s) (e : Ev) (hl : l.length < 1000) (hc : ∀ n ∈ caps, -1 ≤ n ∧ n ≤ 3) (hcl : caps.length ≤ 4) (hG : ∀ x ∈ l, 0 ≤ x.1) :
    ∃ s', F_trace_judge_may (l, e, s) = some (tB (goodE caps l e), s') ∧ (goodE caps l e → JOK caps (l ++ [e]) s') := by
  unfold F_trace_judge_may
  simp only
  rw [right_eq hJ e hl hc hcl]
  simp only [Option.bind_some]
  by_cases hg : goodE caps l e
  case neg => rw [tB_f hg]; exact ⟨_, rfl, fun h => absurd h hg⟩
  obtain ⟨g0, g1, k0, k1, n0, s0, s1⟩ := hg.1
  have hlen := hJ.len
  have h1 : inb e.1 8 = true := inbL.2 ⟨g0, by omega⟩
  have h2 : ∀ (m : List ((Int × Int) × Int)) u, inb (natI (@mpos (Int × Int) Int (Ty.beq (.pair (.int .i64) (.int .i64))) (e.2.1, e.2.2.1) m)) (@mput (Int × Int) Int (Ty.beq (.pair (.int .i64) (.int .i64))) (e.2.1, e.2.2.1) u m).length = true := fun m u => inb_nat (mpos_lt _ _)
  have h3 := hJ.count e.2.1 e.2.2.1
  have h4 := cntE_le l e.2.1 e.2.2.1
  have h5 := hJ.begun
  have h6 := cntK_le l 0
  have h7 := hJ.first e.2.2.1
  rw [tB_t hg]
  simp only [Bool.not_true, cond_false]
  rw [bif_t (h2 _ _), bif_t h1, wrapI (n := (l.length : Int) + 1) (by omega) (by omega), wrapI (n := s.2.2.1 + 1) (by omega) (by omega), wrapI (n := e.1 + 1) (by omega) (by omega)]
  have h8 : IntKind.wrap .i64 (lookC e.2.1 e.2.2.1 s.2.2.2.1 + 1) = lookC e.2.1 e.2.2.1 s.2.2.2.1 + 1 := wrapI (by omega) (by omega)
  show ∃ s', (bif e.2.1 == 0 then some (true, s.1, s.2.1.set (toN e.1) (l.length + 1), s.2.2.1 + 1, mset (@mput (Int × Int) Int (Ty.beq (.pair (.int .i64) (.int .i64))) (e.2.1, e.2.2.1) (lookC e.2.1 e.2.2.1 s.2.2.2.1) s.2.2.2.1) (toN (natI (@mpos (Int × Int) Int (Ty.beq (.pair (.int .i64) (.int .i64))) (e.2.1, e.2.2.1) s.2.2.2.1))) (IntKind.wrap .i64 (lookC e.2.1 e.2.2.1 s.2.2.2.1 + 1)), s.2.2.2.2.1, s.2.2.2.2.2)
    else bif e.2.1 == 13 then bif lookF e.2.2.1 s.2.2.2.2.1 == 0 then some (true, s.1, s.2.1.set (toN e.1) (l.length + 1), s.2.2.1, mset (@mput (Int × Int) Int (Ty.beq (.pair (.int .i64) (.int .i64))) (e.2.1, e.2.2.1) (lookC e.2.1 e.2.2.1 s.2.2.2.1) s.2.2.2.1) (toN (natI (@mpos (Int × Int) Int (Ty.beq (.pair (.int .i64) (.int .i64))) (e.2.1, e.2.2.1) s.2.2.2.1))) (IntKind.wrap .i64 (lookC e.2.1 e.2.2.1 s.2.2.2.1 + 1)), @mput Int Int (Ty.beq (.int .i64)) e.2.2.1 (e.1 + 1) s.2.2.2.2.1, s.2.2.2.2.2)
      else some (true, s.1, s.2.1.set (toN e.1) (l.length + 1), s.2.2.1, mset (@mput (Int × Int) Int (Ty.beq (.pair (.int .i64) (.int .i64))) (e.2.1, e.2.2.1) (lookC e.2.1 e.2.2.1 s.2.2.2.1) s.2.2.2.1) (toN (natI (@mpos (Int × Int) Int (Ty.beq (.pair (.int .i64) (.int .i64))) (e.2.1, e.2.2.1) s.2.2.2.1))) (IntKind.wrap .i64 (lookC e.2.1 e.2.2.1 s.2.2.2.1 + 1)), s.2.2.2.2.1, s.2.2.2.2.2)
    else some (true, s.1, s.2.1.set (toN e.1) (l.length + 1), s.2.2.1, mset (@mput (Int × Int) Int (Ty.beq (.pair (.int .i64) (.int .i64))) (e.2.1, e.2.2.1) (lookC e.2.1 e.2.2.1 s.2.2.2.1) s.2.2.2.1) (toN (natI (@mpos (Int × Int) Int (Ty.beq (.pair (.int .i64) (.int .i64))) (e.2.1, e.2.2.1) s.2.2.2.1))) (IntKind.wrap .i64 (lookC e.2.1 e.2.2.1 s.2.2.2.1 + 1)), s.2.2.2.2.1, s.2.2.2.2.2)) = some (true, s') ∧ _
  rw [h8]
  have app := JOK_app hJ e g0 g1 hl hG
  by_cases c0 : e.2.1 = 0
  · rw [bif_t (by simpa using c0)]
    exact ⟨_, rfl, fun _ => app _ (by rw [if_pos c0]) _ (fun o => by rw [if_neg (fun q => by omega)])⟩
  rw [bif_f (by simpa using c0)]
  by_cases c1 : e.2.1 = 13
  · rw [bif_t (by simpa using c1)]
    by_cases c2 : lookF e.2.2.1 s.2.2.2.2.1 = 0
    · rw [bif_t (by simpa using c2)]
      refine ⟨_, rfl, fun _ => app _ (by rw [if_neg c0]) _ (fun o => ?_)⟩
      rw [lookF_put]
      by_cases c3 : e.2.2.1 = o
      · rw [if_pos c3.symm, if_pos ⟨c1, c3, by rw [← c3, ← h7]; exact c2⟩]
      · rw [if_neg (fun h => c3 h.symm), if_neg (fun h => c3 h.2.1)]
    · rw [bif_f (by simpa using c2)]
      refine ⟨_, rfl, fun _ => app _ (by rw [if_neg c0]) _ (fun o => ?_)⟩
      rw [if_neg]
      rintro ⟨_, q1, q2⟩
      rw [← q1, ← h7] at q2
      exact c2 q2
  · rw [bif_f (by simpa using c1)]
    exact ⟨_, rfl, fun _ => app _ (by rw [if_neg c0]) _ (fun o => by rw [if_neg (fun q => c1 q.1)])⟩
end Go.Proofs.Ytkeolcgggondnaa.VX.VxF_T
