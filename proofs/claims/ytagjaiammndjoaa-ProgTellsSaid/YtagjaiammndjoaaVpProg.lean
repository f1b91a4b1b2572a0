/- Plain laws of prog: what is wrong with a program. -/
import Derived.Test.YtagjaiammndjoaaVxCP
import Derived.Test.YtagjaiammndjoaaVl2
set_option linter.unusedVariables false
set_option linter.unusedSimpArgs false
namespace Go.Proofs.Ytagjaiammndjoaa.VX.VxC_P
open Go.Proofs
abbrev In := Int × (Int × Int)
abbrev Cs := Bool × Int
abbrev Sl := List Cs × Bool
abbrev Pg := List Int × (Int × (Int × (Int × (List Sl × List (List In)))))
def zIn : In := (0, 0, 0)
def zSl : Sl := ([], false)
def inP (n lo hi : Int) : Bool := decide (lo ≤ n) && decide (n ≤ hi)
theorem in_eq (n lo hi : Int) : F_prog_in (n, lo, hi) = some (inP n lo hi) := by
  unfold F_prog_in inP
  simp only
  by_cases h : lo ≤ n
  · rw [bif_t (by simpa using h), decide_eq_true h]; rfl
  · rw [bif_f (by simpa using h), decide_eq_false h]; rfl
theorem caps_eq (l : List Int) (hl : l.length < 4611686018427387904) : F_slices_ContainsFunc_int__prog_tables_1 l = some (l.any fun n => !inP n (-1) 3) := by
  unfold F_slices_ContainsFunc_int__prog_tables_1 F_slices_IndexFunc_int__prog_tables_1
  have := loop_find (f := L_slices_IndexFunc_int__prog_tables_1_3) l (fun n => !inP n (-1) 3) (fun k => (l, (l.length : Int), (k : Int))) (fun k => .inl (k : Int)) (.inr ()) (by
    intro k hk
    unfold L_slices_IndexFunc_int__prog_tables_1_3 F_prog_tables_1
    simp only
    rw [bif_t (by simpa using hk), bif_t (inb_nat hk), toN_nat, getAtL _ hk, in_eq]
    simp only [Option.bind_some]
    rw [wrapI (by omega) (by omega)]
    show (bif !inP l[k] (-1) 3 then _ else _) = _
    cases h : inP l[k] (-1) 3 <;> rfl) (by
    unfold L_slices_IndexFunc_int__prog_tables_1_3
    simp only
    rw [bif_f (by simp)])
  rw [show loop L_slices_IndexFunc_int__prog_tables_1_3 (l, (l.length : Int), (0 : Int)) = _ from this, ← List.findIdx?_isSome]
  cases l.findIdx? fun n => !inP n (-1) 3 with
  | none => rfl
  | some i => simp
theorem cases_eq (l : List Cs) (p : Pg) (hl : l.length < 4611686018427387904) (hp : p.1.length < 1000000) : F_slices_ContainsFunc_api_Case__prog_tables_2 (l, p) = some (l.any (fun c => !inP c.2 0 ((p.1.length : Int) - 1)), p) := by
  unfold F_slices_ContainsFunc_api_Case__prog_tables_2 F_slices_IndexFunc_api_Case__prog_tables_2
  have := loop_find (f := L_slices_IndexFunc_api_Case__prog_tables_2_3) l (fun c => !inP c.2 0 ((p.1.length : Int) - 1)) (fun k => (l, (l.length : Int), (k : Int), p)) (fun k => .inl ((k : Int), p)) (.inr p) (by
    intro k hk
    unfold L_slices_IndexFunc_api_Case__prog_tables_2_3 F_prog_tables_2
    simp only
    rw [bif_t (by simpa using hk), bif_t (inb_nat hk), toN_nat, getAtL _ hk, in_eq, wrapI (n := (p.1.length : Int) - 1) (by omega) (by omega)]
    simp only [Option.bind_some]
    rw [wrapI (by omega) (by omega)]
    cases h : inP l[k].2 0 ((p.1.length : Int) - 1) <;> rfl) (by
    unfold L_slices_IndexFunc_api_Case__prog_tables_2_3
    simp only
    rw [bif_f (by simp)])
  simp only
  rw [show loop L_slices_IndexFunc_api_Case__prog_tables_2_3 (l, (l.length : Int), (0 : Int), p) = _ from this, ← List.findIdx?_isSome]
  cases l.findIdx? fun c => !inP c.2 0 ((p.1.length : Int) - 1) with
  | none => rfl
  | some i => simp
/-- How long a program's tables may be, to be looked at at all. -/
def small (p : Pg) : Prop := p.1.length < 1000 ∧ p.2.2.2.2.1.length < 1000 ∧ p.2.2.2.2.2.length < 1000 ∧ (∀ s ∈ p.2.2.2.2.1, s.1.length < 1000) ∧ ∀ b ∈ p.2.2.2.2.2, b.length < 1000
def sizesOK (p : Pg) : Bool := decide (p.1.length ≤ 4) && (inP p.2.1 0 2 && (inP p.2.2.1 0 2 && (inP p.2.2.2.1 0 4 && (decide (p.2.2.2.2.1.length ≤ 4) && inP (p.2.2.2.2.2.length : Int) 1 6))))
def selErr (p : Pg) (k : Nat) : Option (Int × Int) := if 4 < (p.2.2.2.2.1.getD k zSl).1.length then some ((k : Int), 2) else if (p.2.2.2.2.1.getD k zSl).1.any (fun c => !inP c.2 0 ((p.1.length : Int) - 1)) then some ((k : Int), 3) else none
def tablesP (p : Pg) : Int × Int := if sizesOK p = false then (-1, 2) else if p.1.any (fun n => !inP n (-1) 3) then (-1, 3) else ((List.range p.2.2.2.2.1.length).findSome? (selErr p)).getD (-1, 0)
theorem getD_in {α : Type} {l : List α} {k : Nat} (h : k < l.length) (z : α) : l.getD k z = l[k] := by simp [List.getD, h]
theorem tables_eq (p : Pg) (hs : small p) : F_prog_tables p = some (tablesP p) := by
  obtain ⟨s1, s2, s3, s4, s5⟩ := hs
  have hloop := loop_first (f := L_prog_tables_8) p.2.2.2.2.1.length (fun k => (p.2.2.2.2.1, (p.2.2.2.2.1.length : Int), (k : Int), p)) (fun k => (selErr p k).map .inl) (.inr ()) (by
    intro k hk
    unfold L_prog_tables_8
    simp only
    have hg : getAt (([] : List (Bool × Int)), false) p.2.2.2.2.1 k = p.2.2.2.2.1.getD k zSl := getAt_eq _ _ _
    have hm : (p.2.2.2.2.1.getD k zSl).1.length < 1000 := s4 _ (by rw [getD_in hk]; exact List.getElem_mem hk)
    rw [bif_t (by simpa using hk), bif_t (inb_nat hk), toN_nat, hg, cases_eq _ _ (by omega) (by omega), wrapI (by omega) (by omega)]
    simp only [Option.bind_some]
    unfold selErr
    by_cases h1 : 4 < (p.2.2.2.2.1.getD k zSl).1.length
    · rw [bif_t (decide_eq_true (by omega)), if_pos h1]; rfl
    · rw [bif_f (decide_eq_false (by omega)), if_neg h1]
      cases h2 : (p.2.2.2.2.1.getD k zSl).1.any (fun c => !inP c.2 0 ((p.1.length : Int) - 1)) <;> rfl) (by
    unfold L_prog_tables_8
    simp only
    rw [bif_f (by simp)])
  unfold F_prog_tables tablesP sizesOK
  simp only [in_eq, Option.bind_some]
  by_cases h1 : p.1.length ≤ 4
  · rw [bif_t (by simp; omega), decide_eq_true h1]
    cases h2 : inP p.2.1 0 2 with
    | false => rfl
    | true =>
      cases h3 : inP p.2.2.1 0 2 with
      | false => rfl
      | true =>
        cases h4 : inP p.2.2.2.1 0 4 with
        | false => rfl
        | true =>
          by_cases h5 : p.2.2.2.2.1.length ≤ 4
          · rw [decide_eq_true h5]
            show (bif decide ((p.2.2.2.2.1.length : Int) > 4) then _ else _) = _
            rw [bif_f (by simp; omega)]
            cases h6 : inP (p.2.2.2.2.2.length : Int) 1 6 with
            | false => rfl
            | true =>
              simp only [Bool.not_true, cond_false, Bool.and_self, Bool.true_eq_false, if_false]
              rw [caps_eq _ (by omega)]
              simp only [Option.bind_some]
              cases h7 : p.1.any (fun n => !inP n (-1) 3) with
              | true => rfl
              | false =>
                simp only [cond_false, Bool.false_eq_true, if_false]
                rw [show loop L_prog_tables_8 (p.2.2.2.2.1, (p.2.2.2.2.1.length : Int), (0 : Int), p) = _ from hloop]
                have : ∀ (l : List Nat), l.findSome? (fun k => (selErr p k).map (Sum.inl (β := Unit))) = (l.findSome? (selErr p)).map .inl := by
                  intro l
                  induction l with
                  | nil => rfl
                  | cons a l ih =>
                    rw [List.findSome?_cons, List.findSome?_cons, ih]
                    cases selErr p a <;> rfl
                rw [this]
                cases (List.range p.2.2.2.2.1.length).findSome? (selErr p) <;> rfl
          · rw [decide_eq_false h5]
            show (bif decide ((p.2.2.2.2.1.length : Int) > 4) then _ else _) = _
            rw [bif_t (by simp; omega)]; rfl
  · rw [bif_f (by simp; omega), decide_eq_false h1]; rfl
def mostP (p : Pg) (b : List In) (op : Int) : Int :=
  if op = 0 then 1 else if op = 1 then p.1.length else if op = 2 then p.1.length else if op = 3 then p.1.length else if op = 4 then p.2.2.2.2.1.length else if op = 5 then p.2.1 else if op = 6 then p.2.1 else if op = 7 then p.2.2.1 else if op = 8 then p.2.2.1
  else if op = 9 then p.2.2.2.2.2.length else if op = 10 then p.2.2.2.1 else if op = 11 then p.2.2.2.1 else b.length + 1
def instrP (p : Pg) (b : List In) (i : In) : Int :=
  if inP i.1 0 13 = false then 11 else if inP i.2.1 0 (mostP p b i.1 - 1) = false ∨ inP i.2.2 0 (if i.1 = 7 then b.length else 0) = false then 3 else 0
/-- Numbers of tables are small. -/
def okN (p : Pg) : Prop := (0 ≤ p.2.1 ∧ p.2.1 ≤ 1000) ∧ (0 ≤ p.2.2.1 ∧ p.2.2.1 ≤ 1000) ∧ (0 ≤ p.2.2.2.1 ∧ p.2.2.2.1 ≤ 1000)
theorem ops_eq : F_prog_ops () = some () := rfl
theorem instr_eq (p : Pg) (b : List In) (i : In) (hs : small p) (hn : okN p) (hb : b.length < 1000) : F_prog_instr (p, b, i) = some (instrP p b i) := by
  obtain ⟨s1, s2, s3, s4, s5⟩ := hs
  obtain ⟨n1, n2, n3⟩ := hn
  unfold F_prog_instr instrP
  simp only [in_eq, Option.bind_some, ops_eq, F_prog_none, F_prog_chans, F_prog_selects, F_prog_mutexes, F_prog_onces, F_prog_blocks, F_prog_vars, F_prog_places]
  cases h0 : inP i.1 0 13 with
  | false => rfl
  | true =>
    have hr : 0 ≤ i.1 ∧ i.1 ≤ 13 := by unfold inP at h0; simpa using h0
    have fin : ∀ (a c : Bool) (X : Option Int), X = (bif !a then some (3 : Int) else bif !c then some 3 else some 0) → X = some (if a = false ∨ c = false then 3 else 0) := by
      intro a c X hX; rw [hX]; cases a <;> cases c <;> rfl
    simp only [Bool.not_true, cond_false, Bool.true_eq_false, if_false]
    have hop : i.1 = 0 ∨ i.1 = 1 ∨ i.1 = 2 ∨ i.1 = 3 ∨ i.1 = 4 ∨ i.1 = 5 ∨ i.1 = 6 ∨ i.1 = 7 ∨ i.1 = 8 ∨ i.1 = 9 ∨ i.1 = 10 ∨ i.1 = 11 ∨ i.1 = 12 ∨ i.1 = 13 := by omega
    have w1 : IntKind.wrap .i64 ((1 : Int) - 1) = 0 := wrapI (by omega) (by omega)
    have w2 : IntKind.wrap .i64 ((p.1.length : Int) - 1) = (p.1.length : Int) - 1 := wrapI (by omega) (by omega)
    have w3 : IntKind.wrap .i64 ((p.2.2.2.2.1.length : Int) - 1) = (p.2.2.2.2.1.length : Int) - 1 := wrapI (by omega) (by omega)
    have w4 : IntKind.wrap .i64 (p.2.1 - 1) = p.2.1 - 1 := wrapI (by omega) (by omega)
    have w5 : IntKind.wrap .i64 (p.2.2.1 - 1) = p.2.2.1 - 1 := wrapI (by omega) (by omega)
    have w6 : IntKind.wrap .i64 ((p.2.2.2.2.2.length : Int) - 1) = (p.2.2.2.2.2.length : Int) - 1 := wrapI (by omega) (by omega)
    have w7 : IntKind.wrap .i64 (p.2.2.2.1 - 1) = p.2.2.2.1 - 1 := wrapI (by omega) (by omega)
    have w8 : IntKind.wrap .i64 ((b.length : Int) + 1) = (b.length : Int) + 1 := wrapI (by omega) (by omega)
    have w9 : IntKind.wrap .i64 ((b.length : Int) + 1 - 1) = (b.length : Int) + 1 - 1 := wrapI (by omega) (by omega)
    simp only [w1, w2, w3, w4, w5, w6, w7, w8, w9]
    rcases hop with h | h | h | h | h | h | h | h | h | h | h | h | h | h <;> (rw [h]; exact fin _ _ _ rfl)
def blkErr (p : Pg) (b : Nat) : Option (Int × Int × Int) := if 24 < (p.2.2.2.2.2.getD b []).length then some ((b : Int), -1, 2) else
  (List.range (p.2.2.2.2.2.getD b []).length).findSome? fun k => if instrP p (p.2.2.2.2.2.getD b []) ((p.2.2.2.2.2.getD b []).getD k zIn) = 0 then none else some ((b : Int), (k : Int), instrP p (p.2.2.2.2.2.getD b []) ((p.2.2.2.2.2.getD b []).getD k zIn))
def wrongP (p : Pg) : Int × Int × Int := if (tablesP p).2 = 0 then ((List.range p.2.2.2.2.2.length).findSome? (blkErr p)).getD (-1, -1, 0) else (-1, (tablesP p).1, (tablesP p).2)
theorem findSome_map {α β γ : Type} (f : β → γ) (g : α → Option β) : ∀ (l : List α), l.findSome? (fun k => (g k).map f) = (l.findSome? g).map f
  | [] => rfl
  | a :: l => by
    rw [List.findSome?_cons, List.findSome?_cons, findSome_map f g l]
    cases g a <;> rfl
theorem sizes_ok {p : Pg} (h : (tablesP p).2 = 0) : sizesOK p = true := by
  unfold tablesP at h
  cases hs : sizesOK p with
  | true => rfl
  | false => rw [hs, if_pos rfl] at h; cases h
theorem sizes_okN {p : Pg} (h : sizesOK p = true) : okN p := by
  unfold sizesOK inP at h
  simp only [Bool.and_eq_true, decide_eq_true_eq] at h
  exact ⟨⟨by omega, by omega⟩, ⟨by omega, by omega⟩, ⟨by omega, by omega⟩⟩
theorem wrong_eq (p : Pg) (hs : small p) : F_prog_Wrong p = some (wrongP p) := by
  unfold F_prog_Wrong wrongP
  rw [tables_eq p hs]
  simp only [Option.bind_some]
  by_cases ht : (tablesP p).2 = 0
  · rw [bif_f (by simpa using ht), if_pos ht]
    have hn := sizes_okN (sizes_ok ht)
    obtain ⟨s1, s2, s3, s4, s5⟩ := hs
    have hout := loop_first (f := L_prog_Wrong_6) p.2.2.2.2.2.length (fun b => (p.2.2.2.2.2, (p.2.2.2.2.2.length : Int), (b : Int), p)) (fun b => (blkErr p b).map .inl) (.inr ()) (by
      intro b hb
      unfold L_prog_Wrong_6
      simp only
      have hg : getAt ([] : List (Int × (Int × Int))) p.2.2.2.2.2 b = p.2.2.2.2.2.getD b [] := getAt_eq _ _ _
      have hm : (p.2.2.2.2.2.getD b []).length < 1000 := s5 _ (by rw [getD_in hb]; exact List.getElem_mem hb)
      rw [bif_t (by simpa using hb), bif_t (inb_nat hb), toN_nat, hg]
      unfold blkErr
      generalize p.2.2.2.2.2.getD b [] = bl at *
      by_cases h1 : 24 < bl.length
      · rw [bif_t (decide_eq_true (by omega)), if_pos h1]; rfl
      · rw [bif_f (decide_eq_false (by omega)), if_neg h1]
        have hin := loop_first (f := L_prog_Wrong_11) bl.length (fun k => ((b : Int), bl, p.2.2.2.2.2, (p.2.2.2.2.2.length : Int), (b : Int), bl, (bl.length : Int), (k : Int), p)) (fun k => (if instrP p bl (bl.getD k zIn) = 0 then none else some ((b : Int), (k : Int), instrP p bl (bl.getD k zIn))).map .inl) (.inr (p.2.2.2.2.2, (p.2.2.2.2.2.length : Int), (b : Int), p)) (by
          intro k hk
          unfold L_prog_Wrong_11
          simp only
          have hg : getAt ((0 : Int), ((0 : Int), (0 : Int))) bl k = bl.getD k zIn := getAt_eq _ _ _
          rw [bif_t (by simpa using hk), bif_t (inb_nat hk), toN_nat, hg, instr_eq p bl _ ⟨s1, s2, s3, s4, s5⟩ hn hm, wrapI (by omega) (by omega)]
          simp only [Option.bind_some]
          by_cases h2 : instrP p bl (bl.getD k zIn) = 0
          · rw [bif_f (by simp only [h2]; rfl), if_pos h2]; rfl
          · rw [bif_t (by simpa using h2), if_neg h2]; rfl) (by
          unfold L_prog_Wrong_11
          simp only
          rw [bif_f (by simp)])
        rw [show loop L_prog_Wrong_11 ((b : Int), bl, p.2.2.2.2.2, (p.2.2.2.2.2.length : Int), (b : Int), bl, (bl.length : Int), (0 : Int), p) = _ from hin, findSome_map]
        cases (List.range bl.length).findSome? (fun k => if instrP p bl (bl.getD k zIn) = 0 then none else some ((b : Int), (k : Int), instrP p bl (bl.getD k zIn))) with
        | none =>
          simp only [Option.map_none, Option.getD_none, Option.bind_some]
          rw [wrapI (by omega) (by omega)]; rfl
        | some y => rfl) (by
      unfold L_prog_Wrong_6
      simp only
      rw [bif_f (by simp)])
    rw [show loop L_prog_Wrong_6 (p.2.2.2.2.2, (p.2.2.2.2.2.length : Int), (0 : Int), p) = _ from hout, findSome_map]
    cases (List.range p.2.2.2.2.2.length).findSome? (blkErr p) <;> rfl
  · rw [bif_t (by simpa using ht), if_neg ht]; rfl
def rightP (p : Pg) : Prop := (wrongP p).2.2 = 0
instance (p : Pg) : Decidable (rightP p) := by unfold rightP; infer_instance
theorem pRight_eq (p : Pg) (hs : small p) : F_prog_Right p = some (decide (rightP p)) := by
  unfold F_prog_Right
  rw [wrong_eq p hs]
  simp only [Option.bind_some]
  unfold rightP
  by_cases h : (wrongP p).2.2 = 0
  · rw [decide_eq_true h, h]; rfl
  · rw [decide_eq_false h, beq_eq_false_iff_ne.2 h]
theorem findSome_none {α β : Type} {g : α → Option β} {l : List α} (h : l.findSome? g = none) : ∀ x ∈ l, g x = none := by
  intro x hx
  exact List.findSome?_eq_none_iff.1 h x hx
/-- What is right of a right program. -/
structure RightP (p : Pg) : Prop where
  sizes : sizesOK p = true
  caps : ∀ n ∈ p.1, -1 ≤ n ∧ n ≤ 3
  sels : ∀ s ∈ p.2.2.2.2.1, s.1.length ≤ 4 ∧ ∀ c ∈ s.1, 0 ≤ c.2 ∧ c.2 < p.1.length
  blks : ∀ b ∈ p.2.2.2.2.2, b.length ≤ 24 ∧ ∀ i ∈ b, instrP p b i = 0
theorem mem_getD {α : Type} {l : List α} {x : α} (h : x ∈ l) (z : α) : ∃ k, k < l.length ∧ l.getD k z = x := by
  obtain ⟨k, hk, e⟩ := List.mem_iff_getElem.1 h
  exact ⟨k, hk, by rw [getD_in hk, e]⟩
theorem selErr_ne {p : Pg} {k : Nat} {y : Int × Int} (h : selErr p k = some y) : y.2 ≠ 0 := by
  unfold selErr at h
  split at h
  · cases h; show (2 : Int) ≠ 0; decide
  · split at h
    · cases h; show (3 : Int) ≠ 0; decide
    · cases h
theorem blkErr_ne {p : Pg} {k : Nat} {y : Int × Int × Int} (h : blkErr p k = some y) : y.2.2 ≠ 0 := by
  unfold blkErr at h
  split at h
  · cases h; show (2 : Int) ≠ 0; decide
  · obtain ⟨l1, a, l2, h1, h2, h3⟩ := List.findSome?_eq_some_iff.1 h
    split at h2
    · cases h2
    · cases h2; assumption
theorem rightP_iff (p : Pg) : rightP p ↔ RightP p := by
  constructor
  · intro h
    unfold rightP wrongP at h
    split at h
    · rename_i ht
      have hz := sizes_ok ht
      have hb : (List.range p.2.2.2.2.2.length).findSome? (blkErr p) = none := by
        cases hq : (List.range p.2.2.2.2.2.length).findSome? (blkErr p) with
        | none => rfl
        | some y =>
          rw [hq] at h
          obtain ⟨l1, a, l2, h1, h2, h3⟩ := List.findSome?_eq_some_iff.1 hq
          exact absurd h (blkErr_ne h2)
      unfold tablesP at ht
      rw [hz, if_neg (by simp)] at ht
      cases hc : p.1.any (fun n => !inP n (-1) 3) with
      | true => rw [hc, if_pos rfl] at ht; cases ht
      | false =>
        rw [hc, if_neg (by simp)] at ht
        have hsel : (List.range p.2.2.2.2.1.length).findSome? (selErr p) = none := by
          cases hq : (List.range p.2.2.2.2.1.length).findSome? (selErr p) with
          | none => rfl
          | some y =>
            rw [hq] at ht
            obtain ⟨l1, a, l2, h1, h2, h3⟩ := List.findSome?_eq_some_iff.1 hq
            exact absurd ht (selErr_ne h2)
        refine ⟨hz, fun n hn => ?_, fun s hs => ?_, fun b hbm => ?_⟩
        · have := List.any_eq_false.1 hc n hn
          unfold inP at this
          simpa using this
        · obtain ⟨k, hk, e⟩ := mem_getD hs zSl
          have := findSome_none hsel k (List.mem_range.2 hk)
          unfold selErr at this
          rw [e] at this
          split at this
          · cases this
          · rename_i h4
            split at this
            · cases this
            · rename_i h5
              refine ⟨by omega, fun c hcm => ?_⟩
              have h6 : s.1.any (fun c => !inP c.2 0 ((p.1.length : Int) - 1)) = false := by simpa using h5
              have := List.any_eq_false.1 h6 c hcm
              unfold inP at this
              simp only [Bool.not_eq_true, Bool.not_eq_false', Bool.and_eq_true, decide_eq_true_eq] at this
              omega
        · obtain ⟨k, hk, e⟩ := mem_getD hbm []
          have := findSome_none hb k (List.mem_range.2 hk)
          unfold blkErr at this
          rw [e] at this
          split at this
          · cases this
          · rename_i h4
            refine ⟨by omega, fun i hi => ?_⟩
            obtain ⟨j, hj, e2⟩ := mem_getD hi zIn
            have := findSome_none this j (List.mem_range.2 hj)
            rw [e2] at this
            split at this
            · assumption
            · cases this
    · rename_i ht; exact absurd h ht
  · rintro ⟨h1, h2, h3, h4⟩
    have hc : p.1.any (fun n => !inP n (-1) 3) = false := by
      rw [List.any_eq_false]
      intro n hn
      have := h2 n hn
      unfold inP
      simp; omega
    have hsel : (List.range p.2.2.2.2.1.length).findSome? (selErr p) = none := by
      rw [List.findSome?_eq_none_iff]
      intro k hk
      have hk := List.mem_range.1 hk
      obtain ⟨q1, q2⟩ := h3 (p.2.2.2.2.1.getD k zSl) (by rw [getD_in hk]; exact List.getElem_mem hk)
      unfold selErr
      rw [if_neg (by omega), if_neg]
      have : (p.2.2.2.2.1.getD k zSl).1.any (fun c => !inP c.2 0 ((p.1.length : Int) - 1)) = false := by
        rw [List.any_eq_false]
        intro c hcm
        have := q2 c hcm
        have : inP c.2 0 ((p.1.length : Int) - 1) = true := by
          unfold inP
          simp only [Bool.and_eq_true, decide_eq_true_eq]
          omega
        rw [this]; simp
      rw [this]; simp
    have ht : tablesP p = (-1, 0) := by
      unfold tablesP
      rw [h1, if_neg (by simp), hc, if_neg (by simp), hsel]; rfl
    have hb : (List.range p.2.2.2.2.2.length).findSome? (blkErr p) = none := by
      rw [List.findSome?_eq_none_iff]
      intro k hk
      have hk := List.mem_range.1 hk
      obtain ⟨q1, q2⟩ := h4 (p.2.2.2.2.2.getD k []) (by rw [getD_in hk]; exact List.getElem_mem hk)
      unfold blkErr
      rw [if_neg (by omega), List.findSome?_eq_none_iff]
      intro j hj
      have hj := List.mem_range.1 hj
      rw [if_pos (q2 _ (by rw [getD_in hj]; exact List.getElem_mem hj))]
    unfold rightP wrongP
    rw [ht, if_pos rfl, hb]; rfl
def cntB (op : Int) (b : List In) : Nat := (b.filter fun i => i.1 == op).length
def cntP (p : Pg) (op : Int) : Nat := (p.2.2.2.2.2.map (cntB op)).sum
theorem cnt_le (op : Int) : ∀ (l : List (List In)), (∀ b ∈ l, b.length ≤ 24) → (l.map (cntB op)).sum ≤ 24 * l.length
  | [], _ => by simp
  | b :: l, h => by
    have h1 := cnt_le op l (fun b hb => h b (List.mem_cons_of_mem _ hb))
    have h2 := h b (List.mem_cons_self ..)
    have h3 : cntB op b ≤ b.length := List.length_filter_le (fun i : In => i.1 == op) b
    simp only [List.map_cons, List.sum_cons, List.length_cons]
    omega
theorem cnt_inner (op n : Int) (bs : List (List In)) (nb k : Int) (b : List In) (hb : b.length ≤ 24) (h0 : 0 ≤ n ∧ n ≤ 1000000) :
    loop L_prog_Count_11 (op, n, bs, nb, k, b, (b.length : Int), 0) = some (op, n + cntB op b, bs, nb, k) := by
  have := loop_count (f := L_prog_Count_11) b.length (fun j => (op, n + cntB op (b.take j), bs, nb, k, b, (b.length : Int), (j : Int))) (op, n + cntB op b, bs, nb, k) (fun j hj => by
    have hle : cntB op (b.take j) ≤ 24 := by
      unfold cntB
      have := List.length_filter_le (fun i : In => i.1 == op) (b.take j)
      simp at this ⊢; omega
    unfold L_prog_Count_11
    simp only
    have hg : getAt ((0 : Int), ((0 : Int), (0 : Int))) b j = b[j] := getAtL _ hj
    rw [bif_t (by simpa using hj), bif_t (inb_nat hj), toN_nat, hg, wrapI (n := (j : Int) + 1) (by omega) (by omega), wrapI (n := n + (cntB op (b.take j) : Int) + 1) (by omega) (by omega)]
    have hstep : cntB op (b.take (j + 1)) = cntB op (b.take j) + if b[j].1 == op then 1 else 0 := by
      unfold cntB
      rw [List.take_succ_eq_append_getElem hj, List.filter_append, List.length_append]
      congr 1
      generalize b[j] = x
      cases h : (x.1 == op) <;> simp [h]
    rw [hstep]
    cases h : (b[j].1 == op) with
    | true => rw [cond_true]; simp; omega
    | false => rw [cond_false]; simp) (by
    unfold L_prog_Count_11
    simp only
    rw [bif_f (by simp), List.take_length]) 0 (Nat.zero_le _)
  have h0 : cntB op (b.take 0) = 0 := rfl
  rw [h0] at this
  simpa using this
theorem cnt_eq (op : Int) (bs : List (List In)) (hl : bs.length ≤ 6) (hb : ∀ b ∈ bs, b.length ≤ 24) : loop L_prog_Count_8 (op, 0, bs, (bs.length : Int), 0) = some ((bs.map (cntB op)).sum : Int) := by
  have := loop_count (f := L_prog_Count_8) bs.length (fun j => (op, (((bs.take j).map (cntB op)).sum : Int), bs, (bs.length : Int), (j : Int))) ((bs.map (cntB op)).sum : Int) (fun j hj => by
    have hle := cnt_le op (bs.take j) (fun b h => hb b (List.mem_of_mem_take h))
    have hlt : (bs.take j).length ≤ 6 := by simp; omega
    unfold L_prog_Count_8
    simp only
    have hg : getAt ([] : List (Int × (Int × Int))) bs j = bs[j] := getAtL _ hj
    rw [bif_t (by simpa using hj), bif_t (inb_nat hj), toN_nat, hg, cnt_inner op _ bs _ _ bs[j] (hb _ (List.getElem_mem hj)) (by omega)]
    simp only [Option.bind_some]
    rw [wrapI (by omega) (by omega), List.take_succ_eq_append_getElem hj, List.map_append, List.sum_append]
    simp) (by
    unfold L_prog_Count_8
    simp only
    rw [bif_f (by simp), List.take_length]) 0 (Nat.zero_le _)
  simpa using this
theorem count_eq (p : Pg) (op : Int) (hs : small p) : F_prog_Count (p, op) = some (if rightP p then (if inP op 0 13 then ((cntP p op : Int), 0) else (0, 11)) else (0, 1)) := by
  unfold F_prog_Count
  simp only
  rw [pRight_eq p hs]
  simp only [Option.bind_some]
  by_cases h : rightP p
  · rw [decide_eq_true h, if_pos h, in_eq]
    simp only [Option.bind_some]
    cases hi : inP op 0 13 with
    | false => rfl
    | true =>
      have hr := (rightP_iff p).1 h
      have h6 : p.2.2.2.2.2.length ≤ 6 := by
        have := hr.sizes
        unfold sizesOK inP at this
        simp only [Bool.and_eq_true, decide_eq_true_eq] at this
        omega
      rw [bif_f (by rfl), bif_f (by rfl), cnt_eq op _ h6 (fun b hb => (hr.blks b hb).1)]
      rfl
  · rw [decide_eq_false h, if_neg h]; rfl
end Go.Proofs.Ytagjaiammndjoaa.VX.VxC_P
