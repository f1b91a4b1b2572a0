/- The engine, part P: all that a row of a law hands over. -/
import Derived.Test.YtkeolcgggondnaaVxO
import Derived.Carry
import Derived.OpenShut
import Derived.Below
set_option linter.unusedVariables false
set_option linter.unusedSimpArgs false
namespace Go.Proofs.Ytkeolcgggondnaa.VX
open Go.RowKit Go.ChangeShapes Go.WideShapes Go.Deep
variable {P : Program} {W : World}
def wfHL : (ts : List Ty) → HL ts → Prop
  | [], _ => True
  | [t], x => t.wf x
  | t :: u :: l, x => t.wf x.1 ∧ wfHL (u :: l) x.2
def tysB (P : Program) (n : Nat) : List TypeId → List Ty → Bool
  | [], [] => true
  | t :: ts, ty :: tys => tyB P n t ty && tysB P n ts tys
  | _, _ => false
theorem okWide_one {t : TypeId} {r : Reach} {b0 : Nat} {v : Value} (h : Value.okWide P W r b0 t v) {d : TypeDesc} (hd : P.underlying t = some d) (hk : (∃ k, d = .int k) ∨ d = .bool ∨ d = .string ∨ ∃ e, d = .slice e) : v.cells.toList = [v] := by
  rcases hk with ⟨k, rfl⟩ | rfl | rfl | ⟨e, rfl⟩
  · simp only [Value.okWide, hd, Cell.okWide] at h
    cases v <;> simp_all [Cell.ok, Value.cells]
  · simp only [Value.okWide, hd, Cell.okWide] at h
    cases v <;> simp_all [Cell.ok, Value.cells]
  · simp only [Value.okWide, hd, Cell.okWide] at h
    cases v <;> simp_all [Cell.ok, Value.cells]
  · obtain ⟨a, l, c, rfl⟩ := okWide_slice hd h
    simp [Value.cells]
theorem trod_data {H : Type} {enc : TypeId × Value → H} {base : Nat} {spare : Nat → Bool} {held : Bool} {n : Nat} {t : TypeId} {ty : Ty} (hb : tyB P n t ty = true) {r : Reach} {b0 : Nat} {v : Value} {d : DataW H} {p : List MemPlace}
    (hv : Value.okWide P W r b0 t v) (h : DataW.Trod enc P W base spare held t v d p) : ∃ a : ty.T, (∀ g, RV g W (fun _ => True) (.d ty a) v) ∧ ty.wf a := by
  obtain ⟨fuel, hf⟩ := h
  obtain ⟨a, h1, h2⟩ := (tyB_ok n t ty hb).2 enc W base spare held fuel _ _ hf
  refine ⟨a, ?_, h2⟩
  have hb0 := hb
  cases n with
  | zero => cases hb
  | succ n =>
    simp only [tyB, Bool.and_eq_true] at hb
    obtain ⟨_, hb⟩ := hb
    have one : ty.isAgg = false → v.cells.toList = [v] → ∀ g, RV g W (fun _ => True) (.d ty a) v := by
      intro e1 e2 g
      rw [e2] at h1
      refine ⟨fun e => ?_, fun _ => h1⟩
      have e : ty.isAgg = true := e
      rw [e1] at e; cases e
    split at hb
    · rename_i k hu
      cases ty with
      | int k' => exact one rfl (okWide_one hv hu (.inl ⟨k, rfl⟩))
      | _ => cases hb
    · rename_i hu
      cases ty with
      | bool => exact one rfl (okWide_one hv hu (.inr (.inl rfl)))
      | _ => cases hb
    · rename_i hu
      cases ty with
      | str => exact one rfl (okWide_one hv hu (.inr (.inr (.inl rfl))))
      | _ => cases hb
    · rename_i e hu
      cases ty with
      | slice a => exact one rfl (okWide_one hv hu (.inr (.inr (.inr ⟨e, rfl⟩))))
      | _ => cases hb
    · rename_i fs hu
      obtain ⟨⟨cs⟩, rfl, _⟩ := okWide_struct hu hv
      have hag : ty.isAgg = true := by
        generalize fs.toList = l at hb
        match l, hb with
        | [x], hb => cases ty <;> first | rfl | cases hb
        | x :: y :: xs, hb => cases ty <;> first | rfl | cases hb
      intro g
      have h1' : Rd W (fun _ => True) ty a cs := by simpa [Value.cells] using h1
      refine ⟨fun _ => ⟨cs, rfl, h1'⟩, fun e => ?_⟩
      have e : ty.isAgg = false := e
      rw [hag] at e; cases e
    · cases hb
theorem trodAll_data {H : Type} {enc : TypeId × Value → H} {base : Nat} {spare : Nat → Bool} {held : Bool} {n : Nat} {r : Reach} {b0 : Nat} : ∀ {ts : List TypeId} {tys : List Ty} {vs : List Value} {ds : List (DataW H)} {p : List MemPlace}, tysB P n ts tys = true →
    (∀ (j : Nat) t v, ts[j]? = some t → vs[j]? = some v → Value.okWide P W r b0 t v) → DataW.TrodAll enc P W base spare held ts vs ds p → ∃ x : HL tys, DataArgs W (fun _ => True) tys x vs ∧ wfHL tys x
  | [], [], vs, ds, p, _, _, h => by
    obtain ⟨rfl, _, _⟩ := trodAll_nil h
    exact ⟨(), rfl, trivial⟩
  | t :: ts, ty :: tys, vs, ds, p, hb, hv, h => by
    have hb : (tyB P n t ty && tysB P n ts tys) = true := hb
    rw [Bool.and_eq_true] at hb
    obtain ⟨v, vs', d, ds', p1, q, rfl, rfl, rfl, h1, h2⟩ := trodAll_cons h
    obtain ⟨a, a1, a2⟩ := trod_data hb.1 (hv 0 t v rfl rfl) h1
    obtain ⟨x, x1, x2⟩ := trodAll_data hb.2 (fun j t v e1 e2 => hv (j + 1) t v (by simpa using e1) (by simpa using e2)) h2
    cases tys with
    | nil =>
      have x1 : vs' = [] := x1
      subst x1
      exact ⟨a, ⟨v, rfl, a1⟩, a2⟩
    | cons u l => exact ⟨(a, x), ⟨v, vs', rfl, a1, x1⟩, a2, x2⟩
  | [], _ :: _, _, _, _, h, _, _ => by cases h
  | _ :: _, [], _, _, _, h, _, _ => by cases h
/-- Below the old heap nothing has turned: all reads as it did. -/
theorem trodAll_below {H : Type} {enc : TypeId × Value → H} {W' : World} (hl : laidOutB P = true) (hb : Below W.heap.size W W') : ∀ {ts : List TypeId} {vs : List Value} {ds : List (DataW H)} {p : List MemPlace}, (∀ t ∈ ts, P.readableRec t = true ∧ t < P.types.size) →
    DataW.TrodAll enc P W 0 (fun _ => true) true ts vs ds p → DataW.TrodAll enc P W' 0 (fun b => decide (b < W.heap.size)) true ts vs ds p
  | [], vs, ds, p, _, h => by
    obtain ⟨rfl, rfl, rfl⟩ := trodAll_nil h
    exact trodAll_mk0
  | t :: ts, vs, ds, p, ht, h => by
    obtain ⟨v, vs', d, ds', p1, q, rfl, rfl, rfl, h1, h2⟩ := trodAll_cons h
    obtain ⟨q1, q2⟩ := ht t (by simp)
    have lt : ∀ x ∈ p1, x.block < W.heap.size := by obtain ⟨m, hm⟩ := h1; exact DataW.trod_lt m _ _ _ hm
    exact trodAll_cons_mk (Below.trod hl q1 q2 h1 hb lt) (trodAll_below hl hb (fun t ht' => ht t (by simp [ht'])) h2)
/-- A law of data, called with data, answers as its plain form says, and what was there is as it was. -/
theorem law_calls {f : FuncId} {tys : List Ty} {F : HL tys → Option (HL [Ty.bool])} (hs : Sound P f (Spec.pure tys [.bool] F)) {x : HL tys} {vs : List Value} (hx : DataArgs W (fun _ => True) tys x vs) (hF : F x = some true) :
    Calls P f vs.toArray W fun e W' => e = .returned (.bool true) ∧ Below W.heap.size W W' := by
  let g0 : G := { loc := fun _ => default, n := 0, dom := fun _ => False, rt := rtOf P }
  have hI : Inv g0 (fun _ => False) [] W := ⟨fun τ => trivial, fun τ τ' h => (by cases h.1), fun τ h => (by cases h.1), fun b hb => hb.elim, fun τ _ => rfl, fun τ h => h.elim⟩
  have hok : Holds W (fun _ => True) W (okB (fun _ => False) g0 []) := fun b _ _ => ⟨⟨fun h => h, fun ⟨τ, h, _⟩ => (by cases h.1)⟩, rfl⟩
  have ha : ArgsOK g0 W (okB (fun _ => False) g0 []) (ofHL tys x) vs := (DataArgs.mono hok tys x vs hx).args g0
  have htk : ∀ (ts : List Ty) (y : HL ts), toHL [] ts (ofHL ts y) = some y ∧ toksL (ofHL ts y) = [] := by
    intro ts
    have dd : ∀ (t : Ty) (y : t.T), AV.data [] (.d t y) t = some y := by
      intro t y
      have same : ∀ t : Ty, ∃ h, Ty.same t t = some ⟨h⟩ := by
        intro t
        induction t with
        | int k => exact ⟨rfl, by simp [Ty.same, Nat.beq_refl]⟩
        | bool => exact ⟨rfl, rfl⟩
        | str => exact ⟨rfl, rfl⟩
        | pair a b ih1 ih2 =>
          obtain ⟨h1, e1⟩ := ih1
          obtain ⟨h2, e2⟩ := ih2
          exact ⟨rfl, by simp only [Ty.same, e1, e2]⟩
        | one a ih => obtain ⟨h1, e1⟩ := ih; exact ⟨rfl, by simp only [Ty.same, e1]⟩
        | slice a ih => obtain ⟨h1, e1⟩ := ih; exact ⟨rfl, by simp only [Ty.same, e1]⟩
        | arr n a ih => obtain ⟨h1, e1⟩ := ih; exact ⟨rfl, by simp only [Ty.same, e1]; simp⟩
      obtain ⟨h, e⟩ := same t
      have : AV.data [] (.d t y) t = Ty.conv t t y := by cases t <;> rfl
      rw [this]
      unfold Ty.conv
      rw [e]; rfl
    match ts with
    | [] => intro y; exact ⟨rfl, rfl⟩
    | [t] => intro y; exact ⟨dd t y, rfl⟩
    | t :: u :: l =>
      intro y
      have ih : ∀ (ts : List Ty) (y : HL ts), toHL [] ts (ofHL ts y) = some y ∧ toksL (ofHL ts y) = [] := by
        intro ts
        induction ts with
        | nil => intro y; exact ⟨rfl, rfl⟩
        | cons t l ih =>
          cases l with
          | nil => intro y; exact ⟨dd t y, rfl⟩
          | cons u l =>
            intro y
            obtain ⟨h1, h2⟩ := ih y.2
            refine ⟨?_, ?_⟩
            · show (match AV.data [] (.d t y.1) t, toHL [] (u :: l) (ofHL (u :: l) y.2) with | some x, some z => some (x, z) | _, _ => none) = some y
              rw [dd, h1]; rfl
            · show [] ++ toksL (ofHL (u :: l) y.2) = []
              rw [h2]; rfl
      exact ih _ y
  obtain ⟨t1, t2⟩ := htk tys x
  have hrun : (Spec.pure tys [.bool] F).run (R := AV × Unit) (ofHL tys x) [] 0 (fun v _ _ => some (v, ())) (fun _ _ _ => none) = some (.d .bool true, ()) := by
    simp only [Spec.pure, t2]
    show (match toHL [] tys (ofHL tys x) with | some x => _ | none => none) = _
    rw [t1]
    simp only [hF]
    rfl
  refine (hs.2.2 (ofHL tys x) [] g0 _ _ _ (fun _ => False) W vs hrun hI rfl ha).mono fun e W' hpost => ?_
  rcases hpost with ⟨v, m', g', cv, rfl, q1, q2, q3, q4⟩ | ⟨v, m', g', cv, rfl, q1, _⟩
  · have q1 := congrArg (fun p => p.1) (Option.some.inj q1)
    have q1 : v = .d .bool true := q1
    subst q1
    rw [bool_get q3]
    exact ⟨rfl, q4.os, q4.tape, q4.output, q4.size, fun k hk => q4.keep k hk (fun ⟨τ, h, _⟩ => by cases h.1)⟩
  · cases q1
end Go.Proofs.Ytkeolcgggondnaa.VX
