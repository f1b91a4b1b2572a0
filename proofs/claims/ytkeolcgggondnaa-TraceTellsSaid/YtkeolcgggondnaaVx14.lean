/- The engine, part 14: loops, and ways that meet again. -/
import Derived.Test.YtkeolcgggondnaaVx13
import Derived.LoopNIn
set_option linter.unusedVariables false
set_option linter.unusedSimpArgs false
namespace Go.Proofs.Ytkeolcgggondnaa.VX
def iter {X Y : Type} (f : X → Option (X ⊕ Y)) : Nat → X → Option Y
  | 0, _ => none
  | n + 1, x => match f x with
    | some (.inl x') => iter f n x'
    | some (.inr y) => some y
    | none => none
theorem iter_mono {X Y : Type} {f : X → Option (X ⊕ Y)} : ∀ (n k : Nat) (x : X) (y : Y), iter f n x = some y → iter f (n + k) x = some y
  | 0, k, x, y, h => by cases h
  | n + 1, k, x, y, h => by
    rw [show n + 1 + k = (n + k) + 1 by omega]
    simp only [iter] at h ⊢
    split at h
    · rename_i x' hx; exact iter_mono n k x' y h
    · exact h
    · cases h
open Classical in
/-- What a loop comes to: the least fixed point. -/
noncomputable def loop {X Y : Type} (f : X → Option (X ⊕ Y)) (x : X) : Option Y := if h : ∃ y, ∃ n, iter f n x = some y then some h.choose else none
theorem loop_iff {X Y : Type} {f : X → Option (X ⊕ Y)} {x : X} {y : Y} : loop f x = some y ↔ ∃ n, iter f n x = some y := by
  unfold loop
  constructor
  · intro h
    split at h
    · rename_i hx; cases h; exact hx.choose_spec
    · cases h
  · rintro ⟨n, hn⟩
    have hx : ∃ y, ∃ n, iter f n x = some y := ⟨y, n, hn⟩
    rw [dif_pos hx]
    obtain ⟨k, hk⟩ := hx.choose_spec
    have h1 := iter_mono n k x y hn
    have h2 := iter_mono k n x _ hk
    rw [Nat.add_comm] at h2
    rw [h1] at h2; exact h2.symm
theorem loop_eq {X Y : Type} (f : X → Option (X ⊕ Y)) (x : X) : loop f x = match f x with
    | some (.inl x') => loop f x'
    | some (.inr y) => some y
    | none => none := by
  cases hf : f x with
  | none =>
    cases hl : loop f x with
    | none => rfl
    | some y =>
      obtain ⟨n, hn⟩ := loop_iff.1 hl
      cases n with
      | zero => cases hn
      | succ n => simp only [iter, hf] at hn; cases hn
  | some z =>
    cases z with
    | inr y => exact loop_iff.2 ⟨1, by simp [iter, hf]⟩
    | inl x' =>
      show loop f x = loop f x'
      cases hl : loop f x' with
      | some y =>
        obtain ⟨n, hn⟩ := loop_iff.1 hl
        exact loop_iff.2 ⟨n + 1, by simp only [iter, hf]; exact hn⟩
      | none =>
        cases hl2 : loop f x with
        | none => rfl
        | some y =>
          obtain ⟨n, hn⟩ := loop_iff.1 hl2
          cases n with
          | zero => cases hn
          | succ n =>
            simp only [iter, hf] at hn
            rw [loop_iff.2 ⟨n, hn⟩] at hl; cases hl
inductive ETag where
  | normal
  | exit (i : Nat)
  | goto (l : Nat)
  | ret
def ETag.is : ETag → Ex → Bool
  | .normal, .normal => true
  | .exit i, .exit j => Nat.beq i j
  | .goto i, .goto j => Nat.beq i j
  | .ret, .ret => true
  | _, _ => false
def ETag.ex : ETag → Ex
  | .normal => .normal
  | .exit i => .exit i
  | .goto i => .goto i
  | .ret => .ret
def YT : List (ETag × Shape) → Type
  | [] => Empty
  | [e] => HL e.2.ts
  | e :: e2 :: es => HL e.2.ts ⊕ YT (e2 :: es)
def exitGet : (es : List (ETag × Shape)) → Ex → Fr → Mem → Option (YT es)
  | [], _, _, _ => none
  | [e], x, fr, m => bif e.1.is x then e.2.get fr m else none
  | e :: e2 :: es, x, fr, m => bif e.1.is x then match e.2.get fr m with
      | some y => some (.inl y)
      | none => none
    else match exitGet (e2 :: es) x fr m with
      | some y => some (.inr y)
      | none => none
def outK {R : Type} : (es : List (ETag × Shape)) → YT es → (Ex → Fr → Mem → Nat → Option R) → Option R
  | [], _, _ => none
  | [e], y, k => k e.1.ex (e.2.fr y) (e.2.mem y) e.2.bl.length
  | e :: e2 :: es, y, k => match y with
    | .inl y => k e.1.ex (e.2.fr y) (e.2.mem y) e.2.bl.length
    | .inr y => outK (e2 :: es) y k
def rownL : List (Nat × Pat) → Fr → Mem → Nat → Fr × Mem × Nat
  | [], fr, m, N => (fr, m, N)
  | (n, .sl _) :: l, fr, m, N => match rown1 n fr m N with
    | (fr', m', N') => rownL l fr' m' N'
  | _ :: l, fr, m, N => rownL l fr m N
def Shape.getN (sh : Shape) (fr : Fr) (m : Mem) (N : Nat) : Option (HL sh.ts) := match rownL sh.sl fr m N with
  | (fr', m', _) => sh.get fr' m'
theorem rownL_ok {X : Nat → Prop} {E : Env} {a : Act} {w : World} : ∀ (l : List (Nat × Pat)) {g : G} {fr : Fr} {m : Mem}, StOK g X E fr m a w →
    ∃ g', g'.n = (rownL l fr m g.n).2.2 ∧ StOK g' X E (rownL l fr m g.n).1 (rownL l fr m g.n).2.1 a w ∧ Ext0 E.pin g m w g' (rownL l fr m g.n).2.1 w
  | [], g, fr, m, h => ⟨g, rfl, h, Ext0.refl ..⟩
  | (n, p) :: l, g, fr, m, h => by
    cases p with
    | sl j =>
      obtain ⟨g1, n1, h1, x1⟩ := rown1_ok n h
      simp only [rownL]
      rw [← n1]
      obtain ⟨g2, n2, h2, x2⟩ := rownL_ok l h1
      exact ⟨g2, n2, h2, x1.trans x2⟩
    | _ => exact rownL_ok l h
theorem getN_st {g : G} {X : Nat → Prop} {E : Env} {fr : Fr} {m : Mem} {a : Act} {w : World} (sh : Shape) {x : HL sh.ts} (h : sh.getN fr m g.n = some x) (hst : StOK g X E fr m a w) (hp : sh.pin = E.pin) :
    ∃ g', g'.n = sh.bl.length ∧ StOK g' X E (sh.fr x) (sh.mem x) a w ∧ Ext0 E.pin g m w g' (sh.mem x) w := by
  obtain ⟨g1, _, h1, x1⟩ := rownL_ok sh.sl hst
  have h : sh.get (rownL sh.sl fr m g.n).1 (rownL sh.sl fr m g.n).2.1 = some x := h
  obtain ⟨g2, n2, h2, x2⟩ := get_st sh h h1 hp
  exact ⟨g2, n2, h2, x1.trans x2⟩
def pieceSpec (sh : Shape) (es : List (ETag × Shape)) (F : HL sh.ts → Option (YT es)) : CSpec where
  run fr m N k := match sh.getN fr m N with
    | some x => (F x).bind fun y => outK es y k
    | none => none
def loopK (sh : Shape) (es : List (ETag × Shape)) : Ex → Fr → Mem → Nat → Option (HL sh.ts ⊕ YT es) := fun e fr m N => match e with
  | .normal => (sh.getN fr m N).map .inl
  | e => (exitGet es e fr m).map .inr
def pinsOK (p : Nat) : List (ETag × Shape) → Bool
  | [] => true
  | e :: es => Nat.beq e.2.pin p && pinsOK p es
theorem tag_ok {t : ETag} {e : Ex} (h : t.is e = true) : e = t.ex := by
  cases t <;> cases e <;> first | rfl | cases h | (simp only [ETag.is] at h; rw [Nat.eq_of_beq_eq_true h]; rfl)
section
variable {P : Program} {C : Ctx} {X : Nat → Prop}
/-- Behind a piece of text, from the shape in which it ends on. -/
theorem exit_ok {R : Type} {k : Ex → Fr → Mem → Nat → Option R} {r : R} {E : Env} {g : G} {m : Mem} {w : World} : ∀ (es : List (ETag × Shape)), pinsOK E.pin es = true → ∀ (y : YT es), outK es y k = some r → ∀ (e' : Ex) (e : Exit) (g1 : G) (fr1 : Fr) (m1 : Mem) (a1 : Act) (w1 : World), exitGet es e' fr1 m1 = some y → ExR g1 w1 (okB X g1 m1) e' e →
    StOK g1 X E fr1 m1 a1 w1 → Ext0 E.pin g m w g1 m1 w1 → PostK X E g m w k r e a1 w1
  | [], hps, y, h, e', e, g1, fr1, m1, a1, w1, hg, hr, hst, hx => by cases hg
  | [c], hps, y, h, e', e, g1, fr1, m1, a1, w1, hg, hr, hst, hx => by
    have hp0 : c.2.pin = E.pin := by
      have hps : (Nat.beq c.2.pin E.pin && true) = true := hps
      rw [Bool.and_true] at hps; exact Nat.eq_of_beq_eq_true hps
    obtain ⟨h1, h2⟩ := bif_some hg
    obtain ⟨g2, n2, hst2, hx2⟩ := get_st c.2 h2 hst hp0
    have ht := tag_ok h1
    subst ht
    refine ⟨c.1.ex, _, _, g2, ?_, by rw [n2]; exact h, hst2, hx.trans hx2⟩
    generalize c.1 = t at *
    cases t <;> exact hr
  | c :: c2 :: es, hps, y, h, e', e, g1, fr1, m1, a1, w1, hg, hr, hst, hx => by
    have hps : (Nat.beq c.2.pin E.pin && pinsOK E.pin (c2 :: es)) = true := hps
    rw [Bool.and_eq_true] at hps
    have hp0 : c.2.pin = E.pin := Nat.eq_of_beq_eq_true hps.1
    simp only [exitGet] at hg
    cases ht : c.1.is e' with
    | true =>
      rw [ht] at hg
      simp only [cond_true] at hg
      split at hg
      · rename_i z h2
        cases hg
        obtain ⟨g2, n2, hst2, hx2⟩ := get_st c.2 h2 hst hp0
        have ht := tag_ok ht
        subst ht
        refine ⟨c.1.ex, _, _, g2, ?_, by rw [n2]; exact h, hst2, hx.trans hx2⟩
        generalize c.1 = t at *
        cases t <;> exact hr
      · cases hg
    | false =>
      rw [ht] at hg
      simp only [cond_false] at hg
      split at hg
      · rename_i z h2
        cases hg
        exact exit_ok (c2 :: es) hps.2 z h e' e g1 fr1 m1 a1 w1 h2 hr hst hx
      · cases hg
/-- A piece of text whose abstract run, from a shape on, is known. -/
theorem piece_sound (hC : CtxOK P C) {c : Code} (hS : SumOK P C c) (sh : Shape) (es : List (ETag × Shape)) (hp : sh.pin = C.pin) (hps : pinsOK C.pin es = true) (F : HL sh.ts → Option (YT es))
    (heq : ∀ x, exec C c (sh.fr x) (sh.mem x) sh.bl.length (fun e fr m N => exitGet es e fr m) = F x) : CSound P C.ek c (pieceSpec sh es F) := by
  intro R fr m g k r X E a w hE h hst
  have hp : sh.pin = E.pin := hp.trans hE.pin.symm
  have hps : pinsOK E.pin es = true := by rw [hE.pin]; exact hps
  simp only [pieceSpec] at h
  split at h
  · rename_i x hx
    obtain ⟨g1, n1, hst1, hx1⟩ := getN_st sh hx hst hp
    cases hF : F x with
    | none => rw [hF] at h; cases h
    | some y =>
      rw [hF] at h
      have h : outK es y k = some r := h
      have he := heq x
      rw [hF, ← n1] at he
      refine wpIn_mono (exec_ok hC hE c hS _ _ g1 _ y X a w he hst1) ?_
      rintro e a2 w2 ⟨e', fr2, m2, g2, q1, q2, q3, q4⟩
      exact exit_ok es hps y h e' e g2 fr2 m2 a2 w2 q2 q1 q3 (hx1.trans q4)
  · cases h
theorem loop_sound (hC : CtxOK P C) {c : Code} (hS : SumOK P C c) (sh : Shape) (es : List (ETag × Shape)) (hp : sh.pin = C.pin) (hps : pinsOK C.pin es = true) (f : HL sh.ts → Option (HL sh.ts ⊕ YT es))
    (heq : ∀ x, exec C c (sh.fr x) (sh.mem x) sh.bl.length (loopK sh es) = f x) : CSound P C.ek (.loop c) (pieceSpec sh es (loop f)) := by
  intro R fr m g k r X E a w hE h hst
  have hp : sh.pin = E.pin := hp.trans hE.pin.symm
  have hps : pinsOK E.pin es = true := by rw [hE.pin]; exact hps
  simp only [pieceSpec] at h
  split at h
  · rename_i x hx
    obtain ⟨g1, n1, hst1, hx1⟩ := getN_st sh hx hst hp
    cases hF : loop f x with
    | none => rw [hF] at h; cases h
    | some y =>
      rw [hF] at h
      have h : outK es y k = some r := h
      obtain ⟨n, hn⟩ := loop_iff.1 hF
      have key : ∀ (n : Nat) (x : HL sh.ts) (g1 : G) (a1 : Act) (w1 : World), iter f n x = some y → g1.n = sh.bl.length → StOK g1 X E (sh.fr x) (sh.mem x) a1 w1 → Ext0 E.pin g m w g1 (sh.mem x) w1 →
          Code.roundsIn (FR E.rd) 0 P c (PostK X E g m w k r) n a1 w1 := by
        intro n
        induction n with
        | zero => intro x g1 a1 w1 hn; cases hn
        | succ n ih =>
          intro x g1 a1 w1 hn n1 hst1 hx1
          rw [roundsIn_succ]
          simp only [iter] at hn
          have he := heq x
          rw [← n1] at he
          cases hfx : f x with
          | none => rw [hfx] at hn; cases hn
          | some z =>
            rw [hfx] at he hn
            refine wpIn_mono (exec_ok hC hE c hS _ _ g1 _ z X a1 w1 he hst1) ?_
            rintro e a2 w2 ⟨e', fr2, m2, g2, q1, q2, q3, q4⟩
            have hK : (e' = .normal ∧ ∃ x', sh.getN fr2 m2 g2.n = some x' ∧ z = .inl x') ∨ (e' ≠ .normal ∧ ∃ y', exitGet es e' fr2 m2 = some y' ∧ z = .inr y') := by
              have hopt : ∀ {A B : Type} {o : Option A} {f : A → B} {b : B}, o.map f = some b → ∃ x, o = some x ∧ b = f x := by
                intro A B o f b ho
                cases o with
                | none => cases ho
                | some x => exact ⟨x, rfl, (Option.some.inj ho).symm⟩
              cases e' with
              | normal => exact .inl ⟨rfl, hopt q2⟩
              | exit i => exact .inr ⟨by simp, hopt q2⟩
              | goto i => exact .inr ⟨by simp, hopt q2⟩
              | ret => exact .inr ⟨by simp, hopt q2⟩
              | panic v => exact .inr ⟨by simp, hopt q2⟩
            rcases hK with ⟨rfl, x', hx', rfl⟩ | ⟨hne, y', hy', rfl⟩
            · cases q1
              obtain ⟨g3, n3, hst3, hx3⟩ := getN_st sh hx' q3 hp
              exact ih x' g3 a2 w2 hn n3 hst3 ((hx1.trans q4).trans hx3)
            · have hyy : y' = y := Option.some.inj hn
              subst hyy
              have hp := exit_ok es hps y' h e' e g2 fr2 m2 a2 w2 hy' q1 q3 (hx1.trans q4)
              cases e' with
              | normal => exact absurd rfl hne
              | exit i => cases q1; exact hp
              | goto i => cases q1; exact hp
              | ret => cases q1; exact hp
              | panic v => obtain ⟨cv, rfl, _⟩ := q1; exact hp
      exact wpIn_loop_rounds n (key n x g1 a w hn n1 hst1 hx1)
  · cases h
end
end Go.Proofs.Ytkeolcgggondnaa.VX
