/- The engine, part R: words for printed functions. -/
import Derived.Test.YtkeolcgggondnaaVxP
import Derived.Test.YtkeolcgggondnaaVxZ
set_option linter.unusedVariables false
namespace Go.Proofs.Ytkeolcgggondnaa.VX
def bodyOf (f : Func) : Code := match f.body with | some c => c | none => .skip
def findLoop (n : Nat) : Code → List Code
  | .seq a b => findLoop n a ++ findLoop n b
  | .cond _ a b => findLoop n a ++ findLoop n b
  | .block _ a => findLoop n a
  | .scope a => findLoop n a
  | .loop a => (bif Nat.beq (Code.firstId a) n then [a] else []) ++ findLoop n a
  | _ => []
noncomputable def loopOf (n : Nat) (f : Func) : Code := (findLoop n (bodyOf f)).headD .skip
theorem SumOK.nil {P : Program} {C : Ctx} (h : C.sum = []) (c : Code) : SumOK P C c := by intro t n s hs; rw [h] at hs; cases hs
/-- All the pieces of a table stand as they say. -/
def SumAll (P : Program) (nt : EK) (c : Code) : List (Nat × Nat × CSpec) → Prop
  | [] => True
  | (t, n, s) :: l => (∀ d ∈ pieces t n c, CSound P nt d s) ∧ SumAll P nt c l
theorem SumOK.of {P : Program} {C : Ctx} {c : Code} (h : SumAll P C.ek c C.sum) : SumOK P C c := by
  have : ∀ l, SumAll P C.ek c l → ∀ t n s, sumget t n l = some s → ∀ d ∈ pieces t n c, CSound P C.ek d s := by
    intro l
    induction l with
    | nil => intro _ t n s hs; cases hs
    | cons e l ih =>
      obtain ⟨t', n', s'⟩ := e
      intro hl t n s hs0
      have hs : (bif Nat.beq t t' && Nat.beq n n' then some s' else sumget t n l) = some s := hs0
      clear hs0
      cases hb : Nat.beq t t' && Nat.beq n n' with
      | true =>
        rw [hb] at hs
        rw [Bool.and_eq_true] at hb
        have e1 := Nat.eq_of_beq_eq_true hb.1
        have e2 := Nat.eq_of_beq_eq_true hb.2
        subst e1 e2
        cases hs
        exact hl.1
      | false => rw [hb] at hs; exact ih hl.2 t n s hs
  exact this C.sum h
theorem pieces_one {P : Program} {nt : EK} {t n : Nat} {c d : Code} {s : CSpec} (h : pieces t n c = [d]) (hs : CSound P nt d s) : ∀ e ∈ pieces t n c, CSound P nt e s := by
  intro e he
  rw [h] at he
  rw [List.mem_singleton.1 he]; exact hs
theorem pieces_none {P : Program} {nt : EK} {t n : Nat} {c : Code} {s : CSpec} (h : pieces t n c = []) : ∀ e ∈ pieces t n c, CSound P nt e s := by
  intro e he
  rw [h] at he; cases he
def findRF (n : Nat) : Code → List Code
  | .seq a b => findRF n a ++ findRF n b
  | .cond _ a b => findRF n a ++ findRF n b
  | .block _ a => findRF n a
  | .scope a => findRF n a
  | .loop a => findRF n a
  | .rangeFunc f ps a b => (bif Nat.beq (Code.firstId a) n then [.rangeFunc f ps a b] else []) ++ findRF n b
  | _ => []
noncomputable def rfOf (n : Nat) (f : Func) : Code := (findRF n (bodyOf f)).headD .skip
def rfF : Code → Operand
  | .rangeFunc f _ _ _ => f
  | _ => .tmp 0
def rfPs : Code → Array Tmp
  | .rangeFunc _ ps _ _ => ps
  | _ => #[]
def rfAs : Code → Code
  | .rangeFunc _ _ a _ => a
  | _ => .skip
def rfBody : Code → Code
  | .rangeFunc _ _ _ b => b
  | _ => .skip
def isRF : Code → Bool
  | .rangeFunc _ _ _ _ => true
  | _ => false
theorem range_at {P : Program} {c : Code} (hc : isRF c = true) {id nt pin : Nat} (hrt : rtOf P id = some ⟨rfPs c, rfAs c, rfBody c, nt⟩) {fx : List (FuncId × List FuncId × Spec)} (hfx : ∀ f cl s, fxget f cl fx = some s → Sound P f s) (slots exs : List Nat) :
    CSound P ⟨nt, pin, true⟩ c (rangeSpec (rfF c) id slots exs fx) := by
  cases c with
  | rangeFunc f ps as body => exact range_sound hrt hfx slots exs
  | _ => cases hc
/-- The rounds' contracts, each proved. -/
def YsAll (P : Program) : List (Nat × List Nat × Spec) → Prop
  | [] => True
  | (id, sl, s) :: l => YSound P id sl s ∧ YsAll P l
/-- The callees' contracts, each proved. -/
def FxAll (P : Program) : List (FuncId × List FuncId × Spec) → Prop
  | [] => True
  | (f, cl, s) :: l => Sound P f s ∧ FxAll P l
theorem fxAll_get {P : Program} {fx : List (FuncId × List FuncId × Spec)} (hf : FxAll P fx) : ∀ f cl s, fxget f cl fx = some s → Sound P f s := by
  have : ∀ l, FxAll P l → ∀ f cl s, fxget f cl l = some s → Sound P f s := by
    intro l
    induction l with
    | nil => intro _ f cl s hs; cases hs
    | cons e l ih =>
      obtain ⟨f', cl', s'⟩ := e
      intro hl f cl s hs0
      have hs : (bif Nat.beq f f' && beqNs cl cl' then some s' else fxget f cl l) = some s := hs0
      clear hs0
      cases hb : Nat.beq f f' && beqNs cl cl' with
      | true =>
        rw [hb] at hs
        rw [Bool.and_eq_true] at hb
        have e1 := Nat.eq_of_beq_eq_true hb.1
        subst e1
        cases hs
        exact hl.1
      | false => rw [hb] at hs; exact ih hl.2 f cl s hs
  exact this fx hf
theorem range_at1 {P : Program} {c : Code} (hc : isRF c = true) {id nt pin : Nat} (hrt : rtOf P id = some ⟨rfPs c, rfAs c, rfBody c, nt⟩) {f : FuncId} {cl : List FuncId} {s : Spec} (hs : Sound P f s) (slots exs : List Nat) :
    CSound P ⟨nt, pin, true⟩ c (rangeSpec (rfF c) id slots exs [(f, cl, s)]) :=
  range_at hc hrt (fxAll_get (fx := [(f, cl, s)]) ⟨hs, trivial⟩) slots exs
theorem ctxOK {P : Program} {C : Ctx} {tbl : List (Nat × TI × ZT)} (hm : P.follows .mixedOrders = true) (ht : tbB P tbl = true) (hC : C.tb = mkTb tbl) (hf : FxAll P C.fx) (hy : YsAll P C.ys := by trivial) (hmi : ∀ (R : Type) f cl args m N k kp, C.miss (R := R) f cl args m N k kp = none := by intros; rfl) : CtxOK P C := by
  refine ⟨hmi, ?_, by rw [hC]; exact tbB_ok ht, fxAll_get hf, hm⟩
  have : ∀ l, YsAll P l → ∀ id sl s, ysget id l = some (sl, s) → YSound P id sl s := by
    intro l
    induction l with
    | nil => intro _ f cl s hs; cases hs
    | cons e l ih =>
      obtain ⟨id', sl', s'⟩ := e
      intro hl id sl s hs0
      have hs : (bif Nat.beq id' id then some (sl', s') else ysget id l) = some (sl, s) := hs0
      clear hs0
      cases hb : Nat.beq id' id with
      | true =>
        rw [hb] at hs
        have e1 := Nat.eq_of_beq_eq_true hb
        subst e1
        cases hs
        exact hl.1
      | false => rw [hb] at hs; exact ih hl.2 id sl s hs
  exact this C.ys hy
end Go.Proofs.Ytkeolcgggondnaa.VX
