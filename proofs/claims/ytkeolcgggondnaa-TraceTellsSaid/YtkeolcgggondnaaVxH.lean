/- The engine: contracts that write nothing that is as it was. -/
import Derived.Test.YtkeolcgggondnaaVxR
set_option linter.unusedVariables false
set_option linter.unusedSimpArgs false
namespace Go.Proofs.Ytkeolcgggondnaa.VX
/-- Values without data, compared. -/
def AV.same : AV → AV → Bool
  | .pr a b, .pr c e => a.same c && b.same e
  | .one a, .one b => a.same b
  | .nl, .nl => true
  | .sl τ, .sl σ => Nat.beq τ σ
  | .ptr τ p, .ptr σ q => Nat.beq τ σ && pathBeq p q
  | .nilp, .nilp => true
  | .mp τ, .mp σ => Nat.beq τ σ
  | .nilm, .nilm => true
  | .fn f a b, .fn h c e => Nat.beq f h && (a.same c && b.same e)
  | .nilf, .nilf => true
  | .ifc t v, .ifc s u => Nat.beq t s && v.same u
  | .nili, .nili => true
  | .nil, .nil => true
  | .cons a b, .cons c e => a.same c && b.same e
  | _, _ => false
theorem AV.same_eq : ∀ (a b : AV), a.same b = true → a = b
  | .pr a b, .pr c e, h => by
    simp only [AV.same, Bool.and_eq_true] at h
    rw [AV.same_eq a c h.1, AV.same_eq b e h.2]
  | .one a, .one b, h => by rw [AV.same_eq a b h]
  | .nl, .nl, _ => rfl
  | .sl τ, .sl σ, h => by rw [Nat.eq_of_beq_eq_true h]
  | .ptr τ p, .ptr σ q, h => by
    simp only [AV.same, Bool.and_eq_true] at h
    rw [Nat.eq_of_beq_eq_true h.1, pathBeq_ok p q h.2]
  | .nilp, .nilp, _ => rfl
  | .mp τ, .mp σ, h => by rw [Nat.eq_of_beq_eq_true h]
  | .nilm, .nilm, _ => rfl
  | .fn f a b, .fn h' c e', h => by
    simp only [AV.same, Bool.and_eq_true] at h
    have e : f = h' := Nat.eq_of_beq_eq_true h.1
    rw [e, AV.same_eq a c h.2.1, AV.same_eq b e' h.2.2]
  | .nilf, .nilf, _ => rfl
  | .ifc t v, .ifc s u, h => by
    simp only [AV.same, Bool.and_eq_true] at h
    have e : t = s := Nat.eq_of_beq_eq_true h.1
    rw [e, AV.same_eq v u h.2]
  | .nili, .nili, _ => rfl
  | .nil, .nil, _ => rfl
  | .cons a b, .cons c e, h => by
    simp only [AV.same, Bool.and_eq_true] at h
    rw [AV.same_eq a c h.1, AV.same_eq b e h.2]
def Blk.same : Blk → Blk → Bool
  | .var a, .var b => a.same b
  | .fm ks a, .fm ls b => beqIs ks ls && a.same b
  | _, _ => false
theorem Blk.same_eq : ∀ (a b : Blk), a.same b = true → a = b
  | .var a, .var b, h => by rw [AV.same_eq a b h]
  | .fm ks a, .fm ls b, h => by
    simp only [Blk.same, Bool.and_eq_true] at h
    rw [beqIs_eq h.1, AV.same_eq a b h.2]
def thinL : Nat → Mem → Mem
  | 0, m => m
  | _ + 1, [] => []
  | n + 1, (τ, B) :: l => bif B.same (mget τ (thinL n l)) then thinL n l else (τ, B) :: thinL n l
theorem thinL_get (σ : Nat) : ∀ (n : Nat) (m : Mem), mget σ (thinL n m) = mget σ m
  | 0, m => rfl
  | _ + 1, [] => rfl
  | n + 1, (τ, B) :: l => by
    have ih := thinL_get σ n l
    simp only [thinL]
    cases hb : B.same (mget τ (thinL n l)) with
    | true =>
      rw [cond_true, ih, mget_cons]
      by_cases e : τ = σ
      · subst e; rw [if_pos rfl, Blk.same_eq _ _ hb, ih]
      · rw [if_neg e]
    | false =>
      rw [cond_false, mget_cons, mget_cons, ih]
theorem thinL_pre (m : Mem) : ∀ δ : Mem, ∃ δ', thinL δ.length (δ ++ m) = δ' ++ m
  | [] => ⟨[], rfl⟩
  | (τ, B) :: δ => by
    obtain ⟨δ', h⟩ := thinL_pre m δ
    simp only [List.length_cons, List.cons_append, thinL]
    rw [h]
    cases B.same (mget τ (δ' ++ m)) with
    | true => exact ⟨δ', rfl⟩
    | false => exact ⟨(τ, B) :: δ', rfl⟩
def thin (m m' : Mem) : Mem := thinL (m'.length - m.length) m'
theorem thin_get (m m' : Mem) (σ : Nat) : mget σ (thin m m') = mget σ m' := thinL_get σ _ _
theorem thin_pre (m δ : Mem) : ∃ δ', thin m (δ ++ m) = δ' ++ m := by
  unfold thin
  rw [List.length_append, Nat.add_sub_cancel]
  exact thinL_pre m δ
def Spec.thin (s : Spec) : Spec := ⟨fun args m N k kp => s.run args m N (fun v m' N' => k v (VX.thin m m') N') (fun v m' N' => kp v (VX.thin m m') N')⟩
section
variable {g : G} {X : Nat → Prop} {m m' : Mem} {w : World}
theorem Lv.eqm (h : ∀ τ, mget τ m' = mget τ m) (τ : Nat) : Lv g m' τ ↔ Lv g m τ := by unfold Lv; rw [h]
theorem Own.eqm (h : ∀ τ, mget τ m' = mget τ m) (b : Nat) : Own g m' b ↔ Own g m b := ⟨fun ⟨τ, a, c⟩ => ⟨τ, (Lv.eqm h τ).1 a, c⟩, fun ⟨τ, a, c⟩ => ⟨τ, (Lv.eqm h τ).2 a, c⟩⟩
theorem okB.eqm (h : ∀ τ, mget τ m' = mget τ m) : okB X g m' = okB X g m := by
  funext b
  unfold okB
  rw [propext (Own.eqm h b)]
theorem Inv.eqm (h : ∀ τ, mget τ m' = mget τ m) (hI : Inv g X m w) : Inv g X m' w :=
  ⟨fun τ => by rw [okB.eqm h, h]; exact hI.ok τ, fun τ τ' a b c => hI.inj τ τ' ((Lv.eqm h τ).1 a) ((Lv.eqm h τ').1 b) c, fun τ a => hI.far τ ((Lv.eqm h τ).1 a), hI.xlt, fun τ a => by rw [h]; exact hI.fresh τ a, hI.dlt⟩
theorem Ext.eqm {g0 : G} {m0 : Mem} {w0 : World} (h : ∀ τ, mget τ m' = mget τ m) (hx : Ext g0 m0 w0 g m w) : Ext g0 m0 w0 g m' w :=
  ⟨hx.gx, hx.nw, hx.size, hx.keep, fun b hb => hx.own b ((Own.eqm h b).1 hb), hx.os, hx.tape, hx.output⟩
end
theorem Sound.thin {P : Program} {f : FuncId} {s : Spec} (h : Sound P f s) : Sound P f s.thin := by
  obtain ⟨h1, h2, h3⟩ := h
  refine ⟨fun args m N R k kp r hr => ?_, h2, fun {R} args m g k kp r X w vs hr hI hrt ha => ?_⟩
  · rcases h1 args m N _ _ r hr with ⟨v, δ, N', hq⟩ | ⟨v, δ, N', hq⟩
    · obtain ⟨δ', hδ⟩ := thin_pre m δ
      exact .inl ⟨v, δ', N', fun k' kp' => (hq _ _).trans (by rw [hδ])⟩
    · obtain ⟨δ', hδ⟩ := thin_pre m δ
      exact .inr ⟨v, δ', N', fun k' kp' => (hq _ _).trans (by rw [hδ])⟩
  · refine (h3 args m g _ _ r X w vs hr hI hrt ha).mono ?_
    rintro e w' (⟨v, m', g', cv, q1, q2, q3, q4, q5⟩ | ⟨v, m', g', cv, q1, q2, q3, q4, q5⟩)
    · exact .inl ⟨v, _, g', cv, q1, q2, q3.eqm (thin_get m m'), by rw [okB.eqm (thin_get m m')]; exact q4, q5.eqm (thin_get m m')⟩
    · exact .inr ⟨v, _, g', cv, q1, q2, q3.eqm (thin_get m m'), by rw [okB.eqm (thin_get m m')]; exact q4, q5.eqm (thin_get m m')⟩
end Go.Proofs.Ytkeolcgggondnaa.VX
