/- The engine, part 13: shapes of states, loops, and pieces of a text that are told apart. -/
import Derived.Test.YtkeolcgggondnaaVx12
set_option linter.unusedVariables false
set_option linter.unusedSimpArgs false
namespace Go.Proofs.Ytkeolcgggondnaa.VX
structure Dyn where
  t : Ty
  x : t.T
inductive Pat where
  | hole (t : Ty)
  | hpv (t : Ty)
  | pr (a b : Pat)
  | one (a : Pat)
  | nl
  | sl (j : Nat)
  | ptr (j : Nat) (p : Path)
  | nilp
  | mp (j : Nat)
  | nilm
  | fn (f : FuncId) (a b : Pat)
  | nilf
  | nili
  | yl (j : Nat)
  | ifc (t : TypeId) (a : Pat)
  | nil
  | cons (a b : Pat)
  | dead
inductive BPat where
  | var (p : Pat)
  | row (t : Ty)
  | frz (t : Ty)
  | mp (kt vt : Ty)
  | lp (id : Nat) (slots : List Nat) (p : Pat)
  | lpt (id : Nat) (slots : List Nat) (p : Pat)
  | fm (ks : List Int) (p : Pat)
  | gone
abbrev Asg := List (Nat × Option Nat)
def alook (j : Nat) : Asg → Option (Option Nat)
  | [] => none
  | (i, v) :: l => bif Nat.beq i j then some v else alook j l
def sameO : Option Nat → Option Nat → Bool
  | none, none => true
  | some a, some b => Nat.beq a b
  | _, _ => false
def asgn (j : Nat) (v : Option Nat) (as : Asg) : Option Asg := match alook j as with
  | none => some ((j, v) :: as)
  | some u => bif sameO v u then some as else none
def selBeq : Sel → Sel → Bool
  | .fld a b c, .fld x y z => Nat.beq a x && ((b == y) && Nat.beq c z)
  | .inn, .inn => true
  | _, _ => false
def pathBeq : Path → Path → Bool
  | [], [] => true
  | a :: p, b :: q => selBeq a b && pathBeq p q
  | _, _ => false
def noneL (x : Option Asg) : Option (List Dyn × Asg) := match x with
  | some as => some ([], as)
  | none => none
def Pat.mt (m : Mem) : Pat → AV → Asg → Option (List Dyn × Asg)
  | .hole t, v, as => match v.data m t with
    | some x => some ([⟨t, x⟩], as)
    | none => none
  | .hpv t, v, as => match v with
    | .pv t' x => match Ty.conv t' t x with
      | some y => some ([⟨t, y⟩], as)
      | none => none
    | _ => none
  | .pr a b, v, as => match v.split with
    | some (u, u') => match Pat.mt m a u as with
      | some (d1, as1) => match Pat.mt m b u' as1 with
        | some (d2, as2) => some (d1 ++ d2, as2)
        | none => none
      | none => none
    | none => none
  | .one a, v, as => match v.sel .inn with
    | some u => Pat.mt m a u as
    | none => none
  | .nl, v, as => match v with
    | .nl => some ([], as)
    | _ => none
  | .sl j, v, as => match v with
    | .sl τ => noneL (asgn j (some τ) as)
    | .nl => noneL (asgn j none as)
    | _ => none
  | .ptr j p, v, as => match v with
    | .ptr τ q => bif pathBeq p q then noneL (asgn j (some τ) as) else none
    | _ => none
  | .nilp, v, as => match v with
    | .nilp => some ([], as)
    | _ => none
  | .mp j, v, as => match v with
    | .mp τ => noneL (asgn j (some τ) as)
    | _ => none
  | .nilm, v, as => match v with
    | .nilm => some ([], as)
    | _ => none
  | .fn f a b, v, as => match v with
    | .fn f' u u' => bif Nat.beq f f' then match Pat.mt m a u as with
      | some (d1, as1) => match Pat.mt m b u' as1 with
        | some (d2, as2) => some (d1 ++ d2, as2)
        | none => none
      | none => none else none
    | _ => none
  | .nilf, v, as => match v with
    | .nilf => some ([], as)
    | _ => none
  | .nili, v, as => match v with
    | .nili => some ([], as)
    | _ => none
  | .yl j, v, as => match v with
    | .yl τ => noneL (asgn j (some τ) as)
    | _ => none
  | .ifc t a, v, as => match v with
    | .ifc t' u => bif Nat.beq t t' then Pat.mt m a u as else none
    | _ => none
  | .nil, v, as => match v with
    | .nil => some ([], as)
    | _ => none
  | .cons a b, v, as => match v with
    | .cons u u' => match Pat.mt m a u as with
      | some (d1, as1) => match Pat.mt m b u' as1 with
        | some (d2, as2) => some (d1 ++ d2, as2)
        | none => none
      | none => none
    | _ => none
  | .dead, v, as => bif Nat.beq v.size 1 && (v.sto && !v.isAgg) then some ([], as) else none
def Pat.fill : Pat → List Dyn → AV × List Dyn
  | .hole _, d :: l => (.d d.t d.x, l)
  | .hpv _, d :: l => (.pv d.t d.x, l)
  | .pr a b, l => (.pr (Pat.fill a l).1 (Pat.fill b (Pat.fill a l).2).1, (Pat.fill b (Pat.fill a l).2).2)
  | .one a, l => (.one (Pat.fill a l).1, (Pat.fill a l).2)
  | .nl, l => (.nl, l)
  | .sl j, l => (.sl j, l)
  | .ptr j p, l => (.ptr j p, l)
  | .nilp, l => (.nilp, l)
  | .mp j, l => (.mp j, l)
  | .nilm, l => (.nilm, l)
  | .fn f a b, l => (.fn f (Pat.fill a l).1 (Pat.fill b (Pat.fill a l).2).1, (Pat.fill b (Pat.fill a l).2).2)
  | .nilf, l => (.nilf, l)
  | .nili, l => (.nili, l)
  | .yl j, l => (.yl j, l)
  | .ifc t a, l => (.ifc t (Pat.fill a l).1, (Pat.fill a l).2)
  | .nil, l => (.nil, l)
  | .cons a b, l => (.cons (Pat.fill a l).1 (Pat.fill b (Pat.fill a l).2).1, (Pat.fill b (Pat.fill a l).2).2)
  | .dead, l => (.dead, l)
  | .hole _, [] => (.dead, [])
  | .hpv _, [] => (.dead, [])
def Pat.fz : Pat → AV → List Nat
  | .hole _, v => v.toks
  | .pr a b, v => match v.split with
    | some (u, u') => Pat.fz a u ++ Pat.fz b u'
    | none => []
  | .one a, v => match v.sel .inn with
    | some u => Pat.fz a u
    | none => []
  | .fn _ a b, v => match v with
    | .fn _ u u' => Pat.fz a u ++ Pat.fz b u'
    | _ => []
  | .cons a b, v => match v with
    | .cons u u' => Pat.fz a u ++ Pat.fz b u'
    | _ => []
  | .ifc _ a, v => match v with
    | .ifc _ u => Pat.fz a u
    | _ => []
  | _, _ => []
def asgn' (j : Nat) (v : Option Nat) (as : Asg) : Asg := match alook j as with
  | none => (j, v) :: as
  | some _ => as
/-- The numbers that a pattern gives, its data left aside. -/
def Pat.asn : Pat → AV → Asg → Asg
  | .pr a b, v, as => match v.split with
    | some (u, u') => Pat.asn b u' (Pat.asn a u as)
    | none => as
  | .one a, v, as => match v.sel .inn with
    | some u => Pat.asn a u as
    | none => as
  | .sl j, v, as => match v with
    | .sl τ => asgn' j (some τ) as
    | .nl => asgn' j none as
    | _ => as
  | .ptr j _, v, as => match v with
    | .ptr τ _ => asgn' j (some τ) as
    | _ => as
  | .mp j, v, as => match v with
    | .mp τ => asgn' j (some τ) as
    | _ => as
  | .yl j, v, as => match v with
    | .yl τ => asgn' j (some τ) as
    | _ => as
  | .fn _ a b, v, as => match v with
    | .fn _ u u' => Pat.asn b u' (Pat.asn a u as)
    | _ => as
  | .cons a b, v, as => match v with
    | .cons u u' => Pat.asn b u' (Pat.asn a u as)
    | _ => as
  | .ifc _ a, v, as => match v with
    | .ifc _ u => Pat.asn a u as
    | _ => as
  | _, _, as => as
def slotsAsn : List (Nat × Pat) → Fr → Asg → Asg
  | [], _, as => as
  | (n, p) :: l, fr, as => slotsAsn l fr (p.asn (fget n fr) as)
/-- What of blocks is to be frozen. -/
def blksFz (m : Mem) : List BPat → Nat → Asg → List Nat
  | [], _, _ => []
  | b :: l, j, as => match b, alook j as with
    | .var p, some (some τ) => match mget τ m with
      | .var v => p.fz v ++ blksFz m l (j + 1) (p.asn v as)
      | _ => blksFz m l (j + 1) as
    | .lp _ _ p, some (some τ) => match mget τ m with
      | .lp _ _ v _ => p.fz v ++ blksFz m l (j + 1) (p.asn v as)
      | _ => blksFz m l (j + 1) as
    | .lpt _ _ p, some (some τ) => match mget τ m with
      | .lp _ _ v _ => p.fz v ++ blksFz m l (j + 1) (p.asn v as)
      | _ => blksFz m l (j + 1) as
    | .fm _ p, some (some τ) => match mget τ m with
      | .fm _ v => p.fz v ++ blksFz m l (j + 1) (p.asn v as)
      | _ => blksFz m l (j + 1) as
    | _, _ => blksFz m l (j + 1) as
def pinAs : Nat → Asg
  | 0 => []
  | n + 1 => (n, some n) :: pinAs n
def Pat.stoP : Pat → Bool
  | .nil | .cons _ _ | .dead => false
  | .pr a b => a.stoP && b.stoP
  | .one a => a.stoP
  | _ => true
def beqIs : List Int → List Int → Bool
  | [], [] => true
  | a :: l, b :: l' => eqI a b && beqIs l l'
  | _, _ => false
theorem beqIs_eq : ∀ {l l' : List Int}, beqIs l l' = true → l = l'
  | [], [], _ => rfl
  | a :: l, b :: l', h => by
    simp only [beqIs, Bool.and_eq_true] at h
    have h1 : a = b := by have := h.1; unfold eqI at this; simpa using this
    rw [h1, beqIs_eq h.2]
  | [], _ :: _, h => by cases h
  | _ :: _, [], h => by cases h
def BPat.mt (m : Mem) : BPat → Blk → Asg → Option (List Dyn × Asg)
  | .var p, b, as => match b with
    | .var v => bif p.stoP then p.mt m v as else none
    | _ => none
  | .row t, b, as => match b with
    | .row t' xs => match Ty.conv (.slice t') (.slice t) xs with
      | some ys => some ([⟨.slice t, ys⟩], as)
      | none => none
    | _ => none
  | .mp kt vt, b, as => match b with
    | .mp k' v' l => match Ty.conv (.slice (.pair k' v')) (.slice (.pair kt vt)) l with
      | some ys => some ([⟨.slice (.pair kt vt), ys⟩], as)
      | none => none
    | _ => none
  | .frz t, b, as => match b with
    | .frz t' xs => match Ty.conv (.slice t') (.slice t) xs with
      | some ys => some ([⟨.slice t, ys⟩], as)
      | none => none
    | _ => none
  | .lp id slots p, b, as => match b with
    | .lp id' slots' sv tag => bif Nat.beq id id' && (beqNs slots slots' && tag == (0 : Int)) then p.mt m sv as else none
    | _ => none
  | .lpt id slots p, b, as => match b with
    | .lp id' slots' sv tag => bif Nat.beq id id' && beqNs slots slots' then match p.mt m sv as with
      | some (d1, as1) => some (⟨.int .i64, tag⟩ :: d1, as1)
      | none => none else none
    | _ => none
  | .fm ks p, b, as => match b with
    | .fm ks' v => bif beqIs ks ks' then p.mt m v as else none
    | _ => none
  | .gone, _, as => some ([], as)
def BPat.nil : BPat → Option (List Dyn)
  | .row t => some [⟨.slice t, []⟩]
  | _ => none
def rowB (d : Dyn) : Blk := match d with
  | ⟨.slice t, xs⟩ => .row t xs
  | _ => .gone
def mpB (d : Dyn) : Blk := match d with
  | ⟨.slice (.pair k v), xs⟩ => .mp k v xs
  | _ => .gone
def frzB (d : Dyn) : Blk := match d with
  | ⟨.slice t, xs⟩ => .frz t xs
  | _ => .gone
def lpB (id : Nat) (slots : List Nat) (v : AV) (d : Dyn) : Blk := match d with
  | ⟨.int _, n⟩ => .lp id slots v n
  | _ => .gone
def BPat.fill : BPat → List Dyn → Blk × List Dyn
  | .var p, l => (.var (p.fill l).1, (p.fill l).2)
  | .row _, d :: l => (rowB d, l)
  | .mp _ _, d :: l => (mpB d, l)
  | .frz _, d :: l => (frzB d, l)
  | .lp id slots p, l => (.lp id slots (p.fill l).1 0, (p.fill l).2)
  | .lpt id slots p, d :: l => (lpB id slots (p.fill l).1 d, (p.fill l).2)
  | .fm ks p, l => (.fm ks (p.fill l).1, (p.fill l).2)
  | .gone, l => (.gone, l)
  | _, [] => (.gone, [])
def slotsMt (m : Mem) : List (Nat × Pat) → Fr → Asg → Option (List Dyn × Asg)
  | [], _, as => some ([], as)
  | (n, p) :: l, fr, as => match p.mt m (fget n fr) as with
    | some (d1, as1) => match slotsMt m l fr as1 with
      | some (d2, as2) => some (d1 ++ d2, as2)
      | none => none
    | none => none
def slotsFz : List (Nat × Pat) → Fr → List Nat
  | [], _ => []
  | (n, p) :: l, fr => p.fz (fget n fr) ++ slotsFz l fr
def blksMt (m : Mem) : List BPat → Nat → Asg → Option (List Dyn × Asg)
  | [], _, as => some ([], as)
  | b :: l, j, as => match alook j as with
    | some (some τ) => match b.mt m (mget τ m) as with
      | some (d1, as1) => match blksMt m l (j + 1) as1 with
        | some (d2, as2) => some (d1 ++ d2, as2)
        | none => none
      | none => none
    | some none => match b.nil with
      | some d1 => match blksMt m l (j + 1) as with
        | some (d2, as2) => some (d1 ++ d2, as2)
        | none => none
      | none => none
    | none => none
def slotsFill : List (Nat × Pat) → List Dyn → Fr × List Dyn
  | [], d => ([], d)
  | (n, p) :: l, d => ((n, (p.fill d).1) :: (slotsFill l (p.fill d).2).1, (slotsFill l (p.fill d).2).2)
def blksFill : List BPat → Nat → List Dyn → Mem × List Dyn
  | [], _, d => ([], d)
  | b :: l, j, d => ((j, (b.fill d).1) :: (blksFill l (j + 1) (b.fill d).2).1, (blksFill l (j + 1) (b.fill d).2).2)
def notIn (τ : Nat) : Asg → Bool
  | [] => true
  | (_, some σ) :: l => !Nat.beq τ σ && notIn τ l
  | (_, none) :: l => notIn τ l
def apart : Asg → Bool
  | [] => true
  | (_, some τ) :: l => notIn τ l && apart l
  | (_, none) :: l => apart l
def below (n : Nat) : Asg → Bool
  | [] => true
  | (j, _) :: l => Nat.blt j n && below n l
structure Shape where
  sl : List (Nat × Pat)
  bl : List BPat
  ts : List Ty
  pin : Nat := 0
def dynHL : (ts : List Ty) → List Dyn → Option (HL ts)
  | [], [] => some ()
  | [t], [d] => Ty.conv d.t t d.x
  | t :: u :: l, d :: ds => match Ty.conv d.t t d.x, dynHL (u :: l) ds with
    | some x, some y => some (x, y)
    | _, _ => none
  | _, _ => none
def hlDyn : (ts : List Ty) → HL ts → List Dyn
  | [], _ => []
  | [t], x => [⟨t, x⟩]
  | t :: u :: l, x => ⟨t, x.1⟩ :: hlDyn (u :: l) x.2
def Shape.get1 (sh : Shape) (fr : Fr) (m : Mem) : Option (HL sh.ts × Asg) := match slotsMt m sh.sl fr (pinAs sh.pin) with
  | some (d1, as1) => match blksMt m sh.bl 0 as1 with
    | some (d2, as2) => bif apart as2 && below sh.bl.length as2 then match dynHL sh.ts (d1 ++ d2) with
      | some x => some (x, as2)
      | none => none else none
    | none => none
  | none => none
def Shape.fzs (sh : Shape) (fr : Fr) (m : Mem) : List Nat := slotsFz sh.sl fr ++ blksFz m sh.bl 0 (slotsAsn sh.sl fr (pinAs sh.pin))
def Shape.getA (sh : Shape) (fr : Fr) (m : Mem) : Option (HL sh.ts × Asg) := sh.get1 fr (frzL (sh.fzs fr m) m)
def Shape.get (sh : Shape) (fr : Fr) (m : Mem) : Option (HL sh.ts) := match sh.getA fr m with
  | some (x, _) => some x
  | none => none
def Shape.fr (sh : Shape) (x : HL sh.ts) : Fr := (slotsFill sh.sl (hlDyn sh.ts x)).1
def Shape.mem (sh : Shape) (x : HL sh.ts) : Mem := (blksFill sh.bl 0 (slotsFill sh.sl (hlDyn sh.ts x)).2).1
theorem conv_dyn {d : Dyn} {t : Ty} {x : t.T} (h : Ty.conv d.t t d.x = some x) : (⟨t, x⟩ : Dyn) = d := by
  cases d with
  | mk t' y =>
    obtain ⟨e, he⟩ := conv_some h
    have e : t' = t := e
    subst e
    have he : x = y := he
    rw [he]
theorem dyn_hl : ∀ (ts : List Ty) (ds : List Dyn) (x : HL ts), dynHL ts ds = some x → hlDyn ts x = ds
  | [], [], x, h => rfl
  | [t], [d], x, h => congrArg (fun d => [d]) (conv_dyn h)
  | t :: u :: l, d :: ds, x, h => by
    have h' : (match Ty.conv d.t t d.x, dynHL (u :: l) ds with | some x, some y => some (x, y) | _, _ => none) = some x := h
    split at h'
    · rename_i y z h1 h2
      cases h'
      show _ :: hlDyn (u :: l) z = _
      rw [dyn_hl (u :: l) ds z h2]
      exact congrArg (fun d => d :: ds) (conv_dyn h1)
    · cases h'
  | [], _ :: _, x, h => by cases h
  | [t], [], x, h => by cases h
  | [t], _ :: _ :: _, x, h => by cases h
  | t :: u :: l, [], x, h => by cases h
theorem alook_cons (j i : Nat) (v : Option Nat) (as : Asg) : alook j ((i, v) :: as) = if i = j then some v else alook j as := by
  show (bif Nat.beq i j then some v else alook j as) = _
  by_cases h : i = j
  · subst h; rw [Nat.beq_refl]; simp
  · rw [if_neg h]
    cases hb : Nat.beq i j with
    | false => rfl
    | true => exact absurd (Nat.eq_of_beq_eq_true hb) h
def Sub (as as' : Asg) : Prop := ∀ j o, alook j as = some o → alook j as' = some o
theorem Sub.refl (as : Asg) : Sub as as := fun _ _ h => h
theorem Sub.trans {a b c : Asg} (h : Sub a b) (k : Sub b c) : Sub a c := fun j o e => k j o (h j o e)
theorem asgn_ok {j : Nat} {v : Option Nat} {as as' : Asg} (h : asgn j v as = some as') : Sub as as' ∧ alook j as' = some v := by
  unfold asgn at h
  cases hl : alook j as with
  | none =>
    rw [hl] at h; cases h
    refine ⟨fun i o e => ?_, by rw [alook_cons, if_pos rfl]⟩
    rw [alook_cons]
    split
    · rename_i e2; subst e2; rw [hl] at e; cases e
    · exact e
  | some u =>
    rw [hl] at h
    have h : (bif sameO v u then some as else none) = some as' := h
    obtain ⟨h1, h2⟩ := bif_some h
    cases h2
    refine ⟨Sub.refl _, ?_⟩
    rw [hl]; congr 1
    cases u <;> cases v <;> first | rfl | cases h1 | (exact congrArg some (Nat.eq_of_beq_eq_true h1).symm)
theorem noneL_ok {x : Option Asg} {ds : List Dyn} {as' : Asg} (h : noneL x = some (ds, as')) : ds = [] ∧ x = some as' := by
  cases x with
  | none => cases h
  | some a => cases h; exact ⟨rfl, rfl⟩
theorem selBeq_ok {a b : Sel} (h : selBeq a b = true) : a = b := by
  cases a <;> cases b <;> first
    | rfl
    | cases h
    | (simp only [selBeq, Bool.and_eq_true] at h
       obtain ⟨h1, h2, h3⟩ := h
       rw [Nat.eq_of_beq_eq_true h1, beq_bool h2, Nat.eq_of_beq_eq_true h3])
theorem pathBeq_ok : ∀ (p q : Path), pathBeq p q = true → p = q
  | [], [], _ => rfl
  | a :: p, b :: q, h => by
    simp only [pathBeq, Bool.and_eq_true] at h
    rw [selBeq_ok h.1, pathBeq_ok p q h.2]
  | [], _ :: _, h => by cases h
  | _ :: _, [], h => by cases h

/-- What a matched pattern is good for. -/
def MtOK (g g' : G) (w : World) (ok ok' : Nat → Prop) (p : Pat) (v : AV) (as : Asg) (ds : List Dyn) (as' : Asg) : Prop :=
  Sub as as' ∧ ∀ asF, Sub as' asF → (∀ j τ, alook j asF = some (some τ) → g'.dom j ∧ g'.loc j = g.loc τ) → (∀ j, alook j asF = some none → g'.dom j ∧ (g'.loc j).sv = .slice none 0 0) → ∀ rest,
    (p.fill (ds ++ rest)).2 = rest ∧ (p.fill (ds ++ rest)).1.isAgg = v.isAgg ∧ (p.stoP = true → (p.fill (ds ++ rest)).1.sto = true) ∧
    (∀ cs, RC g w ok v cs → RC g' w ok' (p.fill (ds ++ rest)).1 cs) ∧ (∀ l, RL g w ok v l → RL g' w ok' (p.fill (ds ++ rest)).1 l)
theorem size1 {g : G} {w : World} {ok : Nat → Prop} {v : AV} (h : v.size = 1) {cs : List Value} (hc : RC g w ok v cs) : ∃ u, cs = [u] := by
  have := RC_len v cs hc
  match cs, this.trans h with
  | [u], _ => exact ⟨u, rfl⟩
theorem mt_ok {g g' : G} {w : World} {ok ok' : Nat → Prop} {m : Mem} (hf : ∀ τ, BOK g w ok τ (mget τ m)) (hH : Holds w ok w ok') : ∀ (p : Pat) (v : AV) (as : Asg) (ds : List Dyn) (as' : Asg), p.mt m v as = some (ds, as') → MtOK g g' w ok ok' p v as ds as'
  | .hole t, v, as, ds, as', h => by
    simp only [Pat.mt] at h
    split at h
    · rename_i x hx
      cases h
      refine ⟨Sub.refl _, fun asF _ _ _ rest => ⟨rfl, (data_agg hx).symm, fun _ => rfl, fun cs hc => Rd_mono hH t x cs (data_ok hf v t x hx cs hc), fun l hl => ?_⟩⟩
      cases v <;> first | exact hl.elim | (cases t <;> cases hx)
    · cases h
  | .hpv t, v, as, ds, as', h => by
    cases v with
    | pv t' y =>
      simp only [Pat.mt] at h
      split at h
      · rename_i x hx
        cases h
        obtain ⟨e, he⟩ := conv_some hx
        subst e
        have he : x = y := he
        subst he
        exact ⟨Sub.refl _, fun asF _ _ _ rest => ⟨rfl, rfl, fun _ => rfl, fun cs hc => let ⟨ad, cells, e1, e2, e3⟩ := hc; ⟨ad, cells, e1, Rd_mono hH t' x cells e2, Seg_mono hH e3⟩, fun l hl => hl.elim⟩⟩
      · cases h
    | _ => cases h
  | .pr a b, v, as, ds, as', h => by
    simp only [Pat.mt] at h
    split at h
    · rename_i u u' hs
      split at h
      · rename_i d1 as1 h1
        split at h
        · rename_i d2 as2 h2
          cases h
          obtain ⟨s1, k1⟩ := mt_ok hf hH a u as d1 as1 h1
          obtain ⟨s2, k2⟩ := mt_ok hf hH b u' as1 d2 as' h2
          refine ⟨s1.trans s2, fun asF hF hA hN rest => ?_⟩
          obtain ⟨q1, q2, q3, q4, q5⟩ := k1 asF (s2.trans hF) hA hN (d2 ++ rest)
          obtain ⟨r1, r2, r3, r4, r5⟩ := k2 asF hF hA hN rest
          simp only [Pat.fill, List.append_assoc, q1, r1]
          refine ⟨trivial, ?_, fun hsp => ?_, fun cs hc => ?_, fun l hl => ?_⟩
          · unfold AV.split at hs; split at hs <;> first | rfl | cases hs
          · simp only [Pat.stoP, Bool.and_eq_true] at hsp
            simp only [AV.sto, q3 hsp.1, r3 hsp.2, Bool.and_self]
          · obtain ⟨c1, c2, e, e1, e2⟩ := split_ok hs hc
            exact ⟨c1, c2, e, q4 c1 e1, r4 c2 e2⟩
          · unfold AV.split at hs; split at hs <;> first | exact hl.elim | cases hs
        · cases h
      · cases h
    · cases h
  | .one a, v, as, ds, as', h => by
    simp only [Pat.mt] at h
    split at h
    · rename_i u hs
      obtain ⟨s1, k1⟩ := mt_ok hf hH a u as ds as' h
      refine ⟨s1, fun asF hF hA hN rest => ?_⟩
      obtain ⟨q1, q2, q3, q4, q5⟩ := k1 asF hF hA hN rest
      have hv : (∀ cs, RC g w ok v cs → RC g w ok u cs) ∧ v.isAgg = true ∧ ∀ l, ¬ RL g w ok v l := by
        simp only [AV.sel] at hs
        split at hs
        · cases hs; exact ⟨fun cs hc => hc, rfl, fun l hl => hl.elim⟩
        · cases hs; exact ⟨fun cs hc => hc, rfl, fun l hl => hl.elim⟩
        · cases hs
      exact ⟨q1, hv.2.1.symm, fun hsp => q3 hsp, fun cs hc => q4 cs (hv.1 cs hc), fun l hl => (hv.2.2 l hl).elim⟩
    · cases h
  | .nl, v, as, ds, as', h => by
    cases v <;> first | (cases h; done) | (cases h; exact ⟨Sub.refl _, fun asF _ _ _ rest => ⟨rfl, rfl, fun _ => rfl, fun cs hc => hc, fun l hl => hl.elim⟩⟩)
  | .sl j, v, as, ds, as', h => by
    cases v with
    | sl τ =>
      obtain ⟨e0, h'⟩ := noneL_ok h
      subst e0
      obtain ⟨h1, h2⟩ := asgn_ok h'
      refine ⟨h1, fun asF hF hA hN rest => ⟨rfl, rfl, fun _ => rfl, fun cs hc => ?_, fun l hl => hl.elim⟩⟩
      obtain ⟨k1, k2⟩ := hA j τ (hF _ _ h2)
      exact ⟨k1, by rw [k2]; exact hc.2⟩
    | nl =>
      obtain ⟨e0, h'⟩ := noneL_ok h
      subst e0
      obtain ⟨h1, h2⟩ := asgn_ok h'
      refine ⟨h1, fun asF hF hA hN rest => ⟨rfl, rfl, fun _ => rfl, fun cs hc => ?_, fun l hl => hl.elim⟩⟩
      obtain ⟨k1, k2⟩ := hN j (hF _ _ h2)
      exact ⟨k1, by rw [k2]; exact hc⟩
    | _ => cases h
  | .ptr j p, v, as, ds, as', h => by
    cases v with
    | ptr τ q =>
      simp only [Pat.mt] at h
      obtain ⟨hp, h3⟩ := bif_some h
      have hpq := pathBeq_ok p q hp
      clear h hp
      subst hpq
      obtain ⟨e0, h'⟩ := noneL_ok h3
      clear h3
      subst e0
      obtain ⟨h1, h2⟩ := asgn_ok h'
      refine ⟨h1, fun asF hF hA hN rest => ⟨rfl, rfl, fun _ => rfl, fun cs hc => ?_, fun l hl => hl.elim⟩⟩
      obtain ⟨k1, k2⟩ := hA j τ (hF _ _ h2)
      exact ⟨k1, by rw [k2]; exact hc.2.1, by rw [k2]; exact hc.2.2⟩
    | _ => cases h
  | .nilp, v, as, ds, as', h => by
    cases v <;> first | (cases h; done) | (cases h; exact ⟨Sub.refl _, fun asF _ _ _ rest => ⟨rfl, rfl, fun _ => rfl, fun cs hc => hc, fun l hl => hl.elim⟩⟩)
  | .mp j, v, as, ds, as', h => by
    cases v with
    | mp τ =>
      obtain ⟨e0, h'⟩ := noneL_ok h
      subst e0
      obtain ⟨h1, h2⟩ := asgn_ok h'
      refine ⟨h1, fun asF hF hA hN rest => ⟨rfl, rfl, fun _ => rfl, fun cs hc => ?_, fun l hl => hl.elim⟩⟩
      obtain ⟨k1, k2⟩ := hA j τ (hF _ _ h2)
      exact ⟨k1, by rw [k2]; exact hc.2⟩
    | _ => cases h
  | .nilm, v, as, ds, as', h => by
    cases v <;> first | (cases h; done) | (cases h; exact ⟨Sub.refl _, fun asF _ _ _ rest => ⟨rfl, rfl, fun _ => rfl, fun cs hc => hc, fun l hl => hl.elim⟩⟩)
  | .fn f a b, v, as, ds, as', h => by
    cases v with
    | fn f' u u' =>
      simp only [Pat.mt] at h
      obtain ⟨hp, h3⟩ := bif_some h
      have hff := Nat.eq_of_beq_eq_true hp
      clear h hp
      subst hff
      have h := h3
      clear h3
      split at h
      · rename_i d1 as1 h1
        split at h
        · rename_i d2 as2 h2
          cases h
          obtain ⟨s1, k1⟩ := mt_ok hf hH a u as d1 as1 h1
          obtain ⟨s2, k2⟩ := mt_ok hf hH b u' as1 d2 as' h2
          refine ⟨s1.trans s2, fun asF hF hA hN rest => ?_⟩
          obtain ⟨q1, q2, q3, q4, q5⟩ := k1 asF (s2.trans hF) hA hN (d2 ++ rest)
          obtain ⟨r1, r2, r3, r4, r5⟩ := k2 asF hF hA hN rest
          simp only [Pat.fill, List.append_assoc, q1, r1]
          refine ⟨trivial, rfl, fun _ => rfl, fun cs hc => ?_, fun l hl => hl.elim⟩
          obtain ⟨fs, ks, e1, e2, e3⟩ := hc
          exact ⟨fs, ks, q5 fs e1, r5 ks e2, e3⟩
        · cases h
      · cases h
    | _ => cases h
  | .nilf, v, as, ds, as', h => by
    cases v <;> first | (cases h; done) | (cases h; exact ⟨Sub.refl _, fun asF _ _ _ rest => ⟨rfl, rfl, fun _ => rfl, fun cs hc => hc, fun l hl => hl.elim⟩⟩)
  | .nili, v, as, ds, as', h => by
    cases v <;> first | (cases h; done) | (cases h; exact ⟨Sub.refl _, fun asF _ _ _ rest => ⟨rfl, rfl, fun _ => rfl, fun cs hc => hc, fun l hl => hl.elim⟩⟩)
  | .yl j, v, as, ds, as', h => by
    cases v with
    | yl τ =>
      obtain ⟨e0, h'⟩ := noneL_ok h
      subst e0
      obtain ⟨h1, h2⟩ := asgn_ok h'
      refine ⟨h1, fun asF hF hA hN rest => ⟨rfl, rfl, fun _ => rfl, fun cs hc => ?_, fun l hl => hl.elim⟩⟩
      obtain ⟨k1, k2⟩ := hA j τ (hF _ _ h2)
      exact ⟨k1, by rw [k2]; exact hc.2⟩
    | _ => cases h
  | .ifc t a, v, as, ds, as', h => by
    cases v with
    | ifc t' u =>
      simp only [Pat.mt] at h
      obtain ⟨hp, h3⟩ := bif_some h
      have hff := Nat.eq_of_beq_eq_true hp
      clear h hp
      subst hff
      obtain ⟨s1, k1⟩ := mt_ok hf hH a u as ds as' h3
      refine ⟨s1, fun asF hF hA hN rest => ?_⟩
      obtain ⟨q1, q2, q3, q4, q5⟩ := k1 asF hF hA hN rest
      simp only [Pat.fill, q1]
      refine ⟨trivial, rfl, fun _ => rfl, fun cs hc => ?_, fun l hl => hl.elim⟩
      obtain ⟨cv, e1, e2, e3⟩ := hc
      exact ⟨cv, e1, fun ha => let ⟨dd, p1, p2⟩ := e2 (q2 ▸ ha); ⟨dd, p1, q4 dd p2⟩, fun ha => q4 _ (e3 (q2 ▸ ha))⟩
    | _ => cases h
  | .nil, v, as, ds, as', h => by
    cases v <;> first | (cases h; done) | (cases h; exact ⟨Sub.refl _, fun asF _ _ _ rest => ⟨rfl, rfl, fun hh => (by cases hh), fun cs hc => hc.elim, fun l hl => hl⟩⟩)
  | .cons a b, v, as, ds, as', h => by
    cases v with
    | cons u u' =>
      simp only [Pat.mt] at h
      split at h
      · rename_i d1 as1 h1
        split at h
        · rename_i d2 as2 h2
          cases h
          obtain ⟨s1, k1⟩ := mt_ok hf hH a u as d1 as1 h1
          obtain ⟨s2, k2⟩ := mt_ok hf hH b u' as1 d2 as' h2
          refine ⟨s1.trans s2, fun asF hF hA hN rest => ?_⟩
          obtain ⟨q1, q2, q3, q4, q5⟩ := k1 asF (s2.trans hF) hA hN (d2 ++ rest)
          obtain ⟨r1, r2, r3, r4, r5⟩ := k2 asF hF hA hN rest
          simp only [Pat.fill, List.append_assoc, q1, r1]
          refine ⟨trivial, rfl, fun hh => (by cases hh), fun cs hc => hc.elim, fun l hl => ?_⟩
          obtain ⟨x, l', e, ⟨e1, e2⟩, e3⟩ := hl
          exact ⟨x, l', e, ⟨fun ha => let ⟨dd, p1, p2⟩ := e1 (q2 ▸ ha); ⟨dd, p1, q4 dd p2⟩, fun ha => q4 [x] (e2 (q2 ▸ ha))⟩, r5 l' e3⟩
        · cases h
      · cases h
    | _ => cases h
  | .dead, v, as, ds, as', h => by
    simp only [Pat.mt] at h
    obtain ⟨hb, h⟩ := bif_some h
    cases h
    simp only [Bool.and_eq_true, Bool.not_eq_true'] at hb
    refine ⟨Sub.refl _, fun asF _ _ _ rest => ⟨rfl, hb.2.2.symm, fun hh => (by cases hh), fun cs hc => size1 (Nat.eq_of_beq_eq_true hb.1) hc, fun l hl => ?_⟩⟩
    have := hb.2.1
    cases v <;> first | exact hl.elim | cases this

theorem slots_ok {g g' : G} {w : World} {ok ok' : Nat → Prop} {m : Mem} (hf : ∀ τ, BOK g w ok τ (mget τ m)) (hH : Holds w ok w ok') {fr : Fr} {tmps : Array Value} (hfr : FrOK g w ok fr tmps) : ∀ (l : List (Nat × Pat)) (as : Asg) (ds : List Dyn) (as' : Asg), slotsMt m l fr as = some (ds, as') →
    Sub as as' ∧ ∀ asF, Sub as' asF → (∀ j τ, alook j asF = some (some τ) → g'.dom j ∧ g'.loc j = g.loc τ) → (∀ j, alook j asF = some none → g'.dom j ∧ (g'.loc j).sv = .slice none 0 0) → ∀ rest,
      (slotsFill l (ds ++ rest)).2 = rest ∧ FrOK g' w ok' (slotsFill l (ds ++ rest)).1 tmps
  | [], as, ds, as', h => by
    cases h
    exact ⟨Sub.refl _, fun asF _ _ _ rest => ⟨rfl, fun t => RV_dead _ _ _ _⟩⟩
  | (n, p) :: l, as, ds, as', h => by
    simp only [slotsMt] at h
    split at h
    · rename_i d1 as1 h1
      split at h
      · rename_i d2 as2 h2
        cases h
        obtain ⟨s1, k1⟩ := mt_ok (g' := g') hf hH p _ as d1 as1 h1
        obtain ⟨s2, k2⟩ := slots_ok hf hH hfr l as1 d2 as' h2
        refine ⟨s1.trans s2, fun asF hF hA hN rest => ?_⟩
        obtain ⟨q1, q2, q3, q4, q5⟩ := k1 asF (s2.trans hF) hA hN (d2 ++ rest)
        obtain ⟨r1, r2⟩ := k2 asF hF hA hN rest
        simp only [slotsFill, List.append_assoc, q1, r1]
        refine ⟨trivial, fun t => ?_⟩
        rw [fget_cons]
        split
        · rename_i e; subst e
          have hv := hfr n
          exact ⟨fun ha => let ⟨dd, p1, p2⟩ := hv.1 (q2 ▸ ha); ⟨dd, p1, q4 dd p2⟩, fun ha => q4 _ (hv.2 (q2 ▸ ha))⟩
        · exact r2 t
      · cases h
    · cases h
theorem sv_nil {L : Loc} (h : L.sv = .slice none 0 0) : L.nil = true ∧ L.len = 0 ∧ L.cap = 0 := by
  unfold Loc.sv at h
  cases hn : L.nil with
  | true => rw [hn] at h; simp only [Value.slice.injEq] at h; exact ⟨rfl, h.2.1, h.2.2⟩
  | false => rw [hn] at h; simp only [Value.slice.injEq] at h; cases h.1
theorem bmt_ok {g g' : G} {w : World} {ok ok' : Nat → Prop} {m : Mem} (hf : ∀ τ, BOK g w ok τ (mget τ m)) (hH : Holds w ok w ok') (hrt : g'.rt = g.rt) {τ j : Nat} : ∀ (b : BPat) (as : Asg) (ds : List Dyn) (as' : Asg), b.mt m (mget τ m) as = some (ds, as') →
    Sub as as' ∧ ∀ asF, Sub as' asF → (∀ j τ, alook j asF = some (some τ) → g'.dom j ∧ g'.loc j = g.loc τ) → (∀ j, alook j asF = some none → g'.dom j ∧ (g'.loc j).sv = .slice none 0 0) → g'.loc j = g.loc τ → ∀ rest,
      (b.fill (ds ++ rest)).2 = rest ∧ BOK g' w ok' j (b.fill (ds ++ rest)).1 ∧ ((b.fill (ds ++ rest)).1.live = true → (mget τ m).live = true)
  | .var p, as, ds, as', h => by
    simp only [BPat.mt] at h
    have hB := hf τ
    cases hm : mget τ m with
    | var v =>
      rw [hm] at h hB
      obtain ⟨hs, h⟩ := bif_some h
      obtain ⟨s1, k1⟩ := mt_ok (g' := g') hf hH p v as ds as' h
      refine ⟨s1, fun asF hF hA hN hj rest => ?_⟩
      obtain ⟨q1, q2, q3, q4, q5⟩ := k1 asF hF hA hN rest
      obtain ⟨b1, b2, b3, c, e, b4, b5⟩ := hB
      exact ⟨q1, ⟨by rw [hj]; exact b1, q3 hs, by rw [hj]; exact b3, c, e, by rw [hj]; exact b4, q4 _ b5⟩, fun _ => rfl⟩
    | _ => rw [hm] at h; cases h
  | .row t, as, ds, as', h => by
    simp only [BPat.mt] at h
    have hB := hf τ
    cases hm : mget τ m with
    | row t' xs =>
      rw [hm] at h hB
      simp only at h
      split at h
      · rename_i ys hy
        cases h
        obtain ⟨e, he⟩ := conv_some hy
        cases e
        have he : ys = xs := he
        subst he
        refine ⟨Sub.refl _, fun asF hF hA hN hj rest => ⟨rfl, ?_, fun _ => rfl⟩⟩
        show BOK g' w ok' j (.row t ys)
        obtain ⟨b1, b2, b0⟩ := hB
        refine ⟨by rw [hj]; exact b1, by rw [hj]; exact b2, ?_⟩
        rw [hj]
        rcases b0 with b0 | ⟨b7, c, e, cells, b3, b4, b5, b6⟩
        · exact .inl b0
        · exact .inr ⟨b7, c, e, cells, b3, RdL_mono (fun x cs => Rd_mono hH t x cs) _ _ b4, b5, b6⟩
      · cases h
    | _ => rw [hm] at h; cases h
  | .mp kt vt, as, ds, as', h => by
    simp only [BPat.mt] at h
    have hB := hf τ
    cases hm : mget τ m with
    | mp k' v' l =>
      rw [hm] at h hB
      simp only at h
      split at h
      · rename_i ys hy
        cases h
        obtain ⟨e, he⟩ := conv_some hy
        cases e
        have he : ys = l := he
        subst he
        refine ⟨Sub.refl _, fun asF hF hA hN hj rest => ⟨rfl, ?_, fun _ => rfl⟩⟩
        show BOK g' w ok' j (.mp kt vt ys)
        obtain ⟨b0, es, b1, b2, b3⟩ := hB
        exact ⟨by rw [hj]; exact b0, es, by rw [hj]; exact b1, b2, fun i e p he hp => EOK_mono hH (b3 i e p he hp)⟩
      · cases h
    | _ => rw [hm] at h; cases h
  | .frz t, as, ds, as', h => by
    simp only [BPat.mt] at h
    have hB := hf τ
    cases hm : mget τ m with
    | frz t' xs =>
      rw [hm] at h hB
      simp only at h
      split at h
      · rename_i ys hy
        cases h
        obtain ⟨e, he⟩ := conv_some hy
        cases e
        have he : ys = xs := he
        subst he
        refine ⟨Sub.refl _, fun asF hF hA hN hj rest => ⟨rfl, ?_, fun hl => (by cases hl)⟩⟩
        show Rd w ok' (.slice t) ys [(g'.loc j).sv]
        rw [hj]; exact Rd_mono hH _ _ _ hB
      · cases h
    | _ => rw [hm] at h; cases h
  | .lp id slots p, as, ds, as', h => by
    simp only [BPat.mt] at h
    have hB := hf τ
    cases hm : mget τ m with
    | lp id' slots' sv tag =>
      rw [hm] at h hB
      obtain ⟨hs, h9⟩ := bif_some h
      clear h
      simp only [Bool.and_eq_true] at hs
      obtain ⟨e1, e2, e3⟩ := hs
      have e1 := Nat.eq_of_beq_eq_true e1
      have e2 := beqNs_eq e2
      have e3 : tag = 0 := by simpa using e3
      subst e1 e2 e3
      obtain ⟨s1, k1⟩ := mt_ok (g' := g') hf hH p sv as ds as' h9
      refine ⟨s1, fun asF hF hA hN hj rest => ?_⟩
      obtain ⟨q1, q2, q3, q4, q5⟩ := k1 asF hF hA hN rest
      obtain ⟨b1, rt, fn, tmps, D, st, pe, vs, b2, b3, b4, b5, b6, b7⟩ := hB
      exact ⟨q1, ⟨by rw [hj]; exact b1, rt, fn, tmps, D, st, pe, vs, by rw [hrt]; exact b2, by rw [hj]; exact b3, b4, q5 _ b5, b6, b7⟩, fun _ => rfl⟩
    | _ => rw [hm] at h; cases h
  | .lpt id slots p, as, ds, as', h => by
    simp only [BPat.mt] at h
    have hB := hf τ
    cases hm : mget τ m with
    | lp id' slots' sv tag =>
      rw [hm] at h hB
      obtain ⟨hs, h9⟩ := bif_some h
      clear h
      simp only [Bool.and_eq_true] at hs
      obtain ⟨e1, e2⟩ := hs
      have e1 := Nat.eq_of_beq_eq_true e1
      have e2 := beqNs_eq e2
      subst e1 e2
      split at h9
      · rename_i d1 as1 h1
        cases h9
        obtain ⟨s1, k1⟩ := mt_ok (g' := g') hf hH p sv as d1 as' h1
        refine ⟨s1, fun asF hF hA hN hj rest => ?_⟩
        obtain ⟨q1, q2, q3, q4, q5⟩ := k1 asF hF hA hN rest
        obtain ⟨b1, rt, fn, tmps, D, st, pe, vs, b2, b3, b4, b5, b6, b7⟩ := hB
        exact ⟨q1, ⟨by rw [hj]; exact b1, rt, fn, tmps, D, st, pe, vs, by rw [hrt]; exact b2, by rw [hj]; exact b3, b4, q5 _ b5, b6, b7⟩, fun _ => rfl⟩
      · cases h9
    | _ => rw [hm] at h; cases h
  | .fm ks p, as, ds, as', h => by
    simp only [BPat.mt] at h
    have hB := hf τ
    cases hm : mget τ m with
    | fm ks' v =>
      rw [hm] at h hB
      obtain ⟨hs, h9⟩ := bif_some h
      clear h
      have e1 := beqIs_eq hs
      subst e1
      obtain ⟨s1, k1⟩ := mt_ok (g' := g') hf hH p v as ds as' h9
      refine ⟨s1, fun asF hF hA hN hj rest => ?_⟩
      obtain ⟨q1, q2, q3, q4, q5⟩ := k1 asF hF hA hN rest
      obtain ⟨b1, es, cvs, b2, b3, b4, b5, b6⟩ := hB
      exact ⟨q1, ⟨by rw [hj]; exact b1, es, cvs, by rw [hj]; exact b2, b3, b4, q5 _ b5, b6⟩, fun _ => rfl⟩
    | _ => rw [hm] at h; cases h
  | .gone, as, ds, as', h => by
    cases h
    exact ⟨Sub.refl _, fun asF _ _ _ _ rest => ⟨rfl, trivial, fun hl => (by cases hl)⟩⟩
theorem blks_ok {g g' : G} {w : World} {ok ok' : Nat → Prop} {m : Mem} (hf : ∀ τ, BOK g w ok τ (mget τ m)) (hH : Holds w ok w ok') (hrt : g'.rt = g.rt) : ∀ (l : List BPat) (j : Nat) (as : Asg) (ds : List Dyn) (as' : Asg), blksMt m l j as = some (ds, as') →
    Sub as as' ∧ ∀ asF, Sub as' asF → (∀ j τ, alook j asF = some (some τ) → g'.dom j ∧ g'.loc j = g.loc τ) → (∀ j, alook j asF = some none → g'.dom j ∧ (g'.loc j).sv = .slice none 0 0) → ∀ rest,
      (blksFill l j (ds ++ rest)).2 = rest ∧ ∀ i, BOK g' w ok' i (mget i (blksFill l j (ds ++ rest)).1) ∧ (mget i (blksFill l j (ds ++ rest)).1 = .gone ∨ (j ≤ i ∧ i < j + l.length)) ∧
        ((mget i (blksFill l j (ds ++ rest)).1).live = true → (∃ τ, alook i asF = some (some τ) ∧ (mget τ m).live = true) ∨ alook i asF = some none)
  | [], j, as, ds, as', h => by
    cases h
    exact ⟨Sub.refl _, fun asF _ _ _ rest => ⟨rfl, fun i => ⟨trivial, .inl rfl, fun hl => (by cases hl)⟩⟩⟩
  | b :: l, j, as, ds, as', h => by
    simp only [blksMt] at h
    split at h
    · rename_i τ hτ
      split at h
      · rename_i d1 as1 h1
        split at h
        · rename_i d2 as2 h2
          cases h
          obtain ⟨s1, k1⟩ := bmt_ok (g' := g') (j := j) hf hH hrt b as d1 as1 h1
          obtain ⟨s2, k2⟩ := blks_ok hf hH hrt l (j + 1) as1 d2 as' h2
          refine ⟨s1.trans s2, fun asF hF hA hN rest => ?_⟩
          have hj := hF _ _ (s2 _ _ (s1 _ _ hτ))
          obtain ⟨q1, q2, q3⟩ := k1 asF (s2.trans hF) hA hN (hA j τ hj).2 (d2 ++ rest)
          obtain ⟨r1, r2⟩ := k2 asF hF hA hN rest
          simp only [blksFill, List.append_assoc, q1, r1]
          refine ⟨trivial, fun i => ?_⟩
          rw [mget_cons]
          split
          · rename_i e; subst e
            exact ⟨q2, .inr ⟨Nat.le_refl _, by simp⟩, fun hl => .inl ⟨τ, hj, q3 hl⟩⟩
          · obtain ⟨r3, r4, r5⟩ := r2 i
            exact ⟨r3, r4.imp id fun ⟨a1, a2⟩ => ⟨by omega, by simp; omega⟩, r5⟩
        · cases h
      · cases h
    · rename_i hτ
      split at h
      · rename_i d1 h1
        split at h
        · rename_i d2 as2 h2
          cases h
          obtain ⟨s2, k2⟩ := blks_ok hf hH hrt l (j + 1) as d2 as' h2
          refine ⟨s2, fun asF hF hA hN rest => ?_⟩
          have hj := hF _ _ (s2 _ _ hτ)
          cases b with
          | row t =>
            cases h1
            obtain ⟨r1, r2⟩ := k2 asF hF hA hN rest
            simp only [blksFill, List.append_assoc, List.cons_append, List.nil_append, BPat.fill, r1]
            refine ⟨trivial, fun i => ?_⟩
            rw [mget_cons]
            split
            · rename_i e; subst e
              obtain ⟨n1, n2, n3⟩ := sv_nil (hN j hj).2
              refine ⟨?_, .inr ⟨Nat.le_refl _, by simp⟩, fun _ => .inr hj⟩
              show BOK g' w ok' j (.row t [])
              exact ⟨n2.symm, by omega, .inl ⟨n1, n3⟩⟩
            · obtain ⟨r3, r4, r5⟩ := r2 i
              exact ⟨r3, r4.imp id fun ⟨a1, a2⟩ => ⟨by omega, by simp; omega⟩, r5⟩
          | _ => cases h1
        · cases h
      · cases h
    · cases h
theorem notIn_ok {τ : Nat} : ∀ (as : Asg), notIn τ as = true → ∀ j, alook j as ≠ some (some τ)
  | [], _, j => by simp [alook]
  | (i, some σ) :: l, h, j => by
    simp only [notIn, Bool.and_eq_true, Bool.not_eq_true'] at h
    rw [alook_cons]
    split
    · intro e; cases e; rw [Nat.beq_refl] at h; cases h.1
    · exact notIn_ok l h.2 j
  | (i, none) :: l, h, j => by
    rw [alook_cons]
    split
    · intro e; cases e
    · exact notIn_ok l h j
theorem apart_ok : ∀ (as : Asg), apart as = true → ∀ j j' τ, alook j as = some (some τ) → alook j' as = some (some τ) → j = j'
  | [], _, j, j', τ, h, _ => by cases h
  | (i, some σ) :: l, h, j, j', τ, h1, h2 => by
    simp only [apart, Bool.and_eq_true] at h
    rw [alook_cons] at h1 h2
    split at h1
    · split at h2
      · omega
      · cases h1; exact absurd h2 (notIn_ok l h.1 j')
    · split at h2
      · cases h2; exact absurd h1 (notIn_ok l h.1 j)
      · exact apart_ok l h.2 j j' τ h1 h2
  | (i, none) :: l, h, j, j', τ, h1, h2 => by
    rw [alook_cons] at h1 h2
    split at h1
    · cases h1
    · split at h2
      · cases h2
      · exact apart_ok l h j j' τ h1 h2
theorem below_ok {n : Nat} : ∀ (as : Asg), below n as = true → ∀ j o, alook j as = some o → j < n
  | [], _, j, o, h => by cases h
  | (i, v) :: l, h, j, o, h1 => by
    simp only [below, Bool.and_eq_true] at h
    rw [alook_cons] at h1
    split at h1
    · rename_i e; subst e; simpa using h.1
    · exact below_ok l h.2 j o h1
theorem pinAs_ok : ∀ (n j : Nat), j < n → alook j (pinAs n) = some (some j)
  | 0, j, h => absurd h (Nat.not_lt_zero _)
  | n + 1, j, h => by
    show alook j ((n, some n) :: pinAs n) = _
    rw [alook_cons]
    split
    · rename_i e; rw [e]
    · exact pinAs_ok n j (by omega)
/-- What the numbers of a shape stand for. -/
def asgG (g : G) (as : Asg) (n : Nat) : G := ⟨fun j => match alook j as with
  | some (some τ) => g.loc τ
  | _ => ⟨0, 0, 0, 0, true⟩, n, fun j => j < n, g.rt⟩
theorem asgG_some {g : G} {as : Asg} {n j τ : Nat} (h : alook j as = some (some τ)) : (asgG g as n).loc j = g.loc τ := by
  show (match alook j as with | some (some τ) => g.loc τ | _ => _) = _; rw [h]
theorem asgG_none {g : G} {as : Asg} {n j : Nat} (h : alook j as = some none) : (asgG g as n).loc j = ⟨0, 0, 0, 0, true⟩ := by
  show (match alook j as with | some (some τ) => g.loc τ | _ => _) = _; rw [h]
/-- What a shape was taken out of, and what it comes to. -/
structure Taken (g : G) (X : Nat → Prop) (m : Mem) (w : World) (X' : Nat → Prop) (sh : Shape) (x : HL sh.ts) (as : Asg) : Prop where
  inv : Inv (asgG g as sh.bl.length) X' (sh.mem x) w
  pins : ∀ j, j < sh.pin → alook j as = some (some j)
  asg : ∀ j o, alook j as = some o → j < sh.bl.length
  inj : ∀ j j' τ, alook j as = some (some τ) → alook j' as = some (some τ) → j = j'
  own : ∀ i, Lv (asgG g as sh.bl.length) (sh.mem x) i → ∃ τ, alook i as = some (some τ) ∧ Lv g m τ
  all : ∀ j, j < sh.bl.length → ∃ o, alook j as = some o
  holds : Holds w (okB X g m) w (okB X' (asgG g as sh.bl.length) (sh.mem x))
theorem blksMt_all {m : Mem} : ∀ (l : List BPat) (j : Nat) (as : Asg) (ds : List Dyn) (as' : Asg), blksMt m l j as = some (ds, as') → (∀ i, j ≤ i → i < j + l.length → ∃ o, alook i as' = some o) ∧ Sub as as'
  | [], j, as, ds, as', h => by cases h; exact ⟨fun i h1 h2 => by simp at h2; omega, Sub.refl _⟩
  | b :: l, j, as, ds, as', h => by
    have bsub : ∀ {τ : Nat} {d1 : List Dyn} {as1 : Asg}, b.mt m (mget τ m) as = some (d1, as1) → Sub as as1 := by
      intro τ d1 as1 h1
      exact bmt_sub h1
    simp only [blksMt] at h
    split at h
    · rename_i τ hτ
      split at h
      · rename_i d1 as1 h1
        split at h
        · rename_i d2 as2 h2
          cases h
          obtain ⟨k1, k2⟩ := blksMt_all l (j + 1) as1 d2 as' h2
          have hs := bsub h1
          refine ⟨fun i q1 q2 => ?_, hs.trans k2⟩
          by_cases e : i = j
          · subst e; exact ⟨_, k2 _ _ (hs _ _ hτ)⟩
          · exact k1 i (by omega) (by simp at q2; omega)
        · cases h
      · cases h
    · rename_i hτ
      split at h
      · rename_i d1 h1
        split at h
        · rename_i d2 as2 h2
          cases h
          obtain ⟨k1, k2⟩ := blksMt_all l (j + 1) as d2 as' h2
          refine ⟨fun i q1 q2 => ?_, k2⟩
          by_cases e : i = j
          · subst e; exact ⟨_, k2 _ _ hτ⟩
          · exact k1 i (by omega) (by simp at q2; omega)
        · cases h
      · cases h
    · cases h
where
  mt_sub {m : Mem} : ∀ {p : Pat} {v : AV} {as : Asg} {ds : List Dyn} {as' : Asg}, p.mt m v as = some (ds, as') → Sub as as'
  | .hole t, v, as, ds, as', h => by simp only [Pat.mt] at h; split at h <;> cases h; exact Sub.refl _
  | .hpv t, v, as, ds, as', h => by
    cases v <;> first | (cases h; done) | skip
    simp only [Pat.mt] at h; split at h <;> cases h; exact Sub.refl _
  | .pr a b, v, as, ds, as', h => by
    simp only [Pat.mt] at h
    split at h
    · split at h
      · rename_i h1
        split at h
        · rename_i h2; cases h; exact (mt_sub h1).trans (mt_sub h2)
        · cases h
      · cases h
    · cases h
  | .one a, v, as, ds, as', h => by
    simp only [Pat.mt] at h
    split at h
    · exact mt_sub h
    · cases h
  | .nl, v, as, ds, as', h => by cases v <;> cases h; exact Sub.refl _
  | .sl j, v, as, ds, as', h => by
    cases v <;> first | (cases h; done) | exact (asgn_ok (noneL_ok h).2).1
  | .ptr j p, v, as, ds, as', h => by
    cases v <;> first | (cases h; done) | skip
    simp only [Pat.mt] at h
    exact (asgn_ok (noneL_ok (bif_some h).2).2).1
  | .nilp, v, as, ds, as', h => by cases v <;> cases h; exact Sub.refl _
  | .mp j, v, as, ds, as', h => by
    cases v <;> first | (cases h; done) | exact (asgn_ok (noneL_ok h).2).1
  | .nilm, v, as, ds, as', h => by cases v <;> cases h; exact Sub.refl _
  | .fn f a b, v, as, ds, as', h => by
    cases v <;> first | (cases h; done) | skip
    simp only [Pat.mt] at h
    have h := (bif_some h).2
    split at h
    · rename_i h1
      split at h
      · rename_i h2; cases h; exact (mt_sub h1).trans (mt_sub h2)
      · cases h
    · cases h
  | .nilf, v, as, ds, as', h => by cases v <;> cases h; exact Sub.refl _
  | .nili, v, as, ds, as', h => by cases v <;> cases h; exact Sub.refl _
  | .yl j, v, as, ds, as', h => by
    cases v <;> first | (cases h; done) | exact (asgn_ok (noneL_ok h).2).1
  | .ifc t a, v, as, ds, as', h => by
    cases v <;> first | (cases h; done) | skip
    simp only [Pat.mt] at h
    exact mt_sub (bif_some h).2
  | .nil, v, as, ds, as', h => by cases v <;> cases h; exact Sub.refl _
  | .cons a b, v, as, ds, as', h => by
    cases v <;> first | (cases h; done) | skip
    simp only [Pat.mt] at h
    split at h
    · rename_i h1
      split at h
      · rename_i h2; cases h; exact (mt_sub h1).trans (mt_sub h2)
      · cases h
    · cases h
  | .dead, v, as, ds, as', h => by
    simp only [Pat.mt] at h
    have h := (bif_some h).2
    cases h; exact Sub.refl _
  bmt_sub {m : Mem} {b : BPat} {B : Blk} {as : Asg} {ds : List Dyn} {as' : Asg} (h : b.mt m B as = some (ds, as')) : Sub as as' := by
    cases b with
    | var p =>
      cases B <;> first | (cases h; done) | skip
      simp only [BPat.mt] at h
      exact mt_sub (bif_some h).2
    | row t =>
      cases B <;> first | (cases h; done) | skip
      simp only [BPat.mt] at h; split at h <;> cases h; exact Sub.refl _
    | frz t =>
      cases B <;> first | (cases h; done) | skip
      simp only [BPat.mt] at h; split at h <;> cases h; exact Sub.refl _
    | mp kt vt =>
      cases B <;> first | (cases h; done) | skip
      simp only [BPat.mt] at h; split at h <;> cases h; exact Sub.refl _
    | lp id sl p =>
      cases B <;> first | (cases h; done) | skip
      simp only [BPat.mt] at h
      exact mt_sub (bif_some h).2
    | lpt id sl p =>
      cases B <;> first | (cases h; done) | skip
      simp only [BPat.mt] at h
      have h := (bif_some h).2
      split at h
      · rename_i h1; cases h; exact mt_sub h1
      · cases h
    | fm ks p =>
      cases B <;> first | (cases h; done) | skip
      simp only [BPat.mt] at h
      exact mt_sub (bif_some h).2
    | gone => cases h; exact Sub.refl _
theorem get_ok2 {g : G} {X : Nat → Prop} {fr : Fr} {m : Mem} {tmps : Array Value} {w : World} (sh : Shape) {x : HL sh.ts} {as : Asg} (h : sh.get1 fr m = some (x, as)) (hI : Inv g X m w) (hfr : FrOK g w (okB X g m) fr tmps)
    (X' : Nat → Prop) (hX : ∀ b, X b → X' b) (hX' : ∀ b, X' b → X b ∨ ∃ τ, Lv g m τ ∧ (∀ j, alook j as ≠ some (some τ)) ∧ (g.loc τ).blk = b) :
    Taken g X m w X' sh x as ∧ FrOK (asgG g as sh.bl.length) w (okB X' (asgG g as sh.bl.length) (sh.mem x)) (sh.fr x) tmps := by
  unfold Shape.get1 at h
  split at h
  · rename_i d1 as1 h1
    split at h
    · rename_i d2 as2 h2
      obtain ⟨hb, h⟩ := bif_some h
      rw [Bool.and_eq_true] at hb
      split at h
      · rename_i x' hx
        cases h
        have hds := dyn_hl _ _ _ hx
        let g' := asgG g as sh.bl.length
        have hA : ∀ j τ, alook j as = some (some τ) → g'.dom j ∧ g'.loc j = g.loc τ := fun j τ e => ⟨below_ok _ hb.2 j _ e, asgG_some e⟩
        have hN : ∀ j, alook j as = some none → g'.dom j ∧ (g'.loc j).sv = .slice none 0 0 := fun j e => ⟨below_ok _ hb.2 j _ e, by
          have : g'.loc j = ⟨0, 0, 0, 0, true⟩ := asgG_none e
          rw [this]; rfl⟩
        -- the memory of the shape, first told over anything
        obtain ⟨sb, kb⟩ := blks_ok (g' := g') (w := w) (ok := okB X g m) (ok' := okB X g m) (fun τ => hI.ok τ) (fun b hb _ => ⟨hb, rfl⟩) rfl sh.bl 0 as1 d2 as h2
        obtain ⟨r1, r2⟩ := kb as (Sub.refl _) hA hN []
        obtain ⟨ss0, ks0⟩ := slots_ok (g' := g') (w := w) (ok := okB X g m) (ok' := okB X g m) (fun τ => hI.ok τ) (fun b hb _ => ⟨hb, rfl⟩) hfr sh.sl _ d1 as1 h1
        have hmem : sh.mem x = (blksFill sh.bl 0 (d2 ++ [])).1 := by
          unfold Shape.mem
          rw [hds]
          obtain ⟨q1, _⟩ := ks0 as sb hA hN d2
          rw [q1, List.append_nil]
        have hlv : ∀ i, Lv g' (sh.mem x) i → ∃ τ, alook i as = some (some τ) ∧ Lv g m τ := by
          intro i ⟨l1, l2⟩
          rw [hmem] at l1
          rcases (r2 i).2.2 l1 with ⟨τ, e1, e2⟩ | e
          · exact ⟨τ, e1, e2, by rw [(hA i τ e1).2] at l2; exact l2⟩
          · have := (sv_nil (hN i e).2).1; rw [this] at l2; cases l2
        have hown : ∀ b, Own g' (sh.mem x) b → Own g m b := by
          intro b ⟨i, l1, l2⟩
          obtain ⟨τ, e1, e2⟩ := hlv i l1
          exact ⟨τ, e2, by rw [← (hA i τ e1).2]; exact l2⟩
        have hH : Holds w (okB X g m) w (okB X' g' (sh.mem x)) := fun b hb _ => ⟨⟨fun h => (hX' b h).elim hb.1 (fun ⟨τ, q1, _, q2⟩ => hb.2 ⟨τ, q1, q2⟩), fun h => hb.2 (hown b h)⟩, rfl⟩
        obtain ⟨ss, ks⟩ := slots_ok (g' := g') (w := w) (ok := okB X g m) (ok' := okB X' g' (sh.mem x)) (fun τ => hI.ok τ) hH hfr sh.sl _ d1 as1 h1
        obtain ⟨q1, q2⟩ := ks as sb hA hN d2
        obtain ⟨sb2, kb2⟩ := blks_ok (g' := g') (w := w) (ok := okB X g m) (ok' := okB X' g' (sh.mem x)) (fun τ => hI.ok τ) hH rfl sh.bl 0 as1 d2 as h2
        obtain ⟨u1, u2⟩ := kb2 as (Sub.refl _) hA hN []
        have hinj := apart_ok _ hb.1
        refine ⟨⟨⟨fun τ => ?_, fun i i' l1 l2 e => ?_, fun i l1 h3 => ?_, fun b h3 => ?_, fun i hi => ?_, fun i hi => hi⟩, fun j hj => sb _ _ (ss0 _ _ (pinAs_ok _ j hj)), below_ok _ hb.2, hinj, hlv, fun j hj => (blksMt_all sh.bl 0 as1 d2 as h2).1 j (Nat.zero_le _) (by omega), hH⟩, ?_⟩
        · have := (u2 τ).1; rw [← hmem] at this; exact this
        · obtain ⟨τ, e1, e2⟩ := hlv i l1
          obtain ⟨τ', e1', e2'⟩ := hlv i' l2
          have e : (g'.loc i).blk = (g'.loc i').blk := e
          rw [(hA i τ e1).2, (hA i' τ' e1').2] at e
          have := hI.inj τ τ' e2 e2' e
          subst this
          exact hinj i i' τ e1 e1'
        · obtain ⟨τ, e1, e2⟩ := hlv i l1
          have h3 : X' (g'.loc i).blk := h3
          rw [(hA i τ e1).2] at h3
          rcases hX' _ h3 with h4 | ⟨σ, p1, p2, p3⟩
          · exact hI.far τ e2 h4
          · have := hI.inj σ τ p1 e2 p3
            subst this
            exact p2 i e1
        · rcases hX' _ h3 with h4 | ⟨σ, p1, p2, p3⟩
          · exact hI.xlt b h4
          · rw [← p3]; exact hI.heap_lt p1
        · have := (u2 i).2.1
          rw [← hmem] at this
          rcases this with h | ⟨_, h⟩
          · exact h
          · exact absurd (show i < sh.bl.length by omega) hi
        · have hfrx : sh.fr x = (slotsFill sh.sl (d1 ++ d2)).1 := by unfold Shape.fr; rw [hds]
          rw [hfrx]; exact q2
      · cases h
    · cases h
  · cases h
theorem get_st {g : G} {X : Nat → Prop} {E : Env} {fr : Fr} {m : Mem} {a : Act} {w : World} (sh : Shape) {x : HL sh.ts} (h : sh.get fr m = some x) (hst : StOK g X E fr m a w) (hp : sh.pin = E.pin) :
    ∃ g', g'.n = sh.bl.length ∧ StOK g' X E (sh.fr x) (sh.mem x) a w ∧ Ext0 E.pin g m w g' (sh.mem x) w := by
  unfold Shape.get at h
  split at h
  · rename_i y as hy
    cases h
    unfold Shape.getA at hy
    obtain ⟨hI1, hx1⟩ := Inv.frzL (sh.fzs fr m) hst.inv
    obtain ⟨hT, hfr⟩ := get_ok2 sh hy hI1 (FrOK.mono hx1.gx (hx1.holds (X := X)) hst.fr) X (fun _ h => h) (fun _ h => .inl h)
    have hxx : Ext0 E.pin g (frzL (sh.fzs fr m) m) w (asgG g as sh.bl.length) (sh.mem x) w := by
      refine ⟨rfl, fun j hj _ => ?_, Nat.le_refl _, fun b _ _ => rfl, fun b ⟨i, l1, l2⟩ => ?_, rfl, rfl, rfl⟩
      · have := hT.pins j (by rw [hp]; exact hj)
        exact ⟨hT.asg _ _ this, asgG_some this⟩
      · obtain ⟨τ, e1, e2⟩ := hT.own i l1
        exact .inl ⟨τ, e2, by rw [← asgG_some e1 (n := sh.bl.length)]; exact l2⟩
    refine ⟨asgG g as sh.bl.length, rfl, ⟨hT.inv, hfr, hst.size, ?_, hst.rt, hst.b0⟩, hx1.to0.trans hxx⟩
    exact hst.defers.mono ((hx1.to0.trans hxx).stays)
  · cases h
end Go.Proofs.Ytkeolcgggondnaa.VX
