/- The engine, part U: an operation goes on in one way alone, and lays what it writes ahead of the memory. -/
import Derived.Test.YtkeolcgggondnaaVx11
set_option linter.unusedVariables false
set_option linter.unusedSimpArgs false
namespace Go.Proofs.Ytkeolcgggondnaa.VX
section
variable {C : Ctx} {m : Mem}
theorem loadA_uni {R : Type} {k : AV → Option R} {r : R} {x : AV} (h : loadA m k x = some r) : ∃ v, ∀ {R' : Type} (k' : AV → Option R'), loadA m k' x = k' v := by
  cases x with
  | ptr τ p =>
    simp only [loadA] at h ⊢
    cases hm : mget τ m with
    | var v =>
      rw [hm] at h
      simp only at h ⊢
      cases hg : v.get p with
      | none => rw [hg] at h; cases h
      | some x => exact ⟨x, fun k' => rfl⟩
    | row t xs =>
      rw [hm] at h
      simp only at h ⊢
      cases p with
      | nil => cases h
      | cons s q =>
        cases s with
        | row i sz =>
          simp only at h ⊢
          cases hb : Nat.beq sz t.size with
          | false => rw [hb] at h; cases h
          | true =>
            rw [hb] at h
            simp only [cond_true] at h ⊢
            cases hg : (AV.d t (getAt t.zero xs i)).get q with
            | none => rw [hg] at h; cases h
            | some x => exact ⟨x, fun k' => rfl⟩
        | _ => cases h
    | _ => rw [hm] at h; cases h
  | pv t x => exact ⟨_, fun k' => rfl⟩
  | _ => cases h
theorem storeA_uni {R : Type} {k : Mem → Option R} {r : R} {x y : AV} (h : storeA m y k x = some r) : ∃ δ, ∀ {R' : Type} (k' : Mem → Option R'), storeA m y k' x = k' (δ ++ m) := by
  cases x with
  | ptr τ p =>
    simp only [storeA] at h ⊢
    cases hs : y.sto with
    | false => rw [hs] at h; cases h
    | true =>
    rw [hs] at h
    simp only [cond_true] at h ⊢
    cases hm : mget τ m with
    | var v =>
      rw [hm] at h
      simp only at h ⊢
      cases hg : v.set m y p with
      | none => rw [hg] at h; cases h
      | some x => exact ⟨[(τ, .var x)], fun k' => rfl⟩
    | row t xs =>
      rw [hm] at h
      simp only at h ⊢
      obtain ⟨δ, hδ⟩ := frzL_pre y.toks m
      cases hm2 : mget τ (frzL y.toks m) with
      | row t2 xs2 =>
        rw [hm2] at h
        simp only at h ⊢
        cases p with
        | nil => cases h
        | cons s q =>
          cases s with
          | row i sz =>
            simp only at h ⊢
            cases hb : Nat.beq sz t.size with
            | false => rw [hb] at h; cases h
            | true =>
              rw [hb] at h
              simp only [cond_true] at h ⊢
              cases hg : (AV.d t (getAt t.zero xs i)).set (frzL y.toks m) y q with
              | none => rw [hg] at h; cases h
              | some v' =>
                rw [hg] at h
                simp only at h ⊢
                cases hd : v'.data (frzL y.toks m) t with
                | none => rw [hd] at h; cases h
                | some z => exact ⟨(τ, .row t (xs.set i z)) :: δ, fun k' => by simp only [hδ]; rfl⟩
          | _ => cases h
      | _ => rw [hm2] at h; cases h
    | _ => rw [hm] at h; cases h
  | _ => cases h
theorem intBin_uni {R : Type} {k : AV → Option R} {r : R} {kx ky : IntKind} {a b : Int} {op : BinOp} (h : intBin kx ky a b op k = some r) : ∃ v, ∀ {R' : Type} (k' : AV → Option R'), intBin kx ky a b op k' = k' v := by
  cases op <;> simp only [intBin] at h ⊢ <;> first
    | (obtain ⟨h1, h2⟩ := bif_some h
       first
        | (obtain ⟨h3, h4⟩ := req_some h2
           exact ⟨_, fun k' => by rw [h1, h3]; rfl⟩)
        | exact ⟨_, fun k' => by rw [h1]; rfl⟩)
    | (obtain ⟨h3, h4⟩ := req_some h
       exact ⟨_, fun k' => by rw [h3]; rfl⟩)
    | cases h
theorem eqSel_uni {R : Type} {k : AV → Option R} {r : R} {b : Bool} {op : BinOp} (h : eqSel op b k = some r) : ∃ v, ∀ {R' : Type} (k' : AV → Option R'), eqSel op b k' = k' v := by
  cases op <;> first | exact ⟨_, fun k' => rfl⟩ | cases h
theorem strBin_uni {R : Type} {k : AV → Option R} {r : R} {a b : List UInt8} {op : BinOp} (h : strBin a b op k = some r) : ∃ v, ∀ {R' : Type} (k' : AV → Option R'), strBin a b op k' = k' v := by
  cases op <;> first
    | exact ⟨_, fun k' => rfl⟩
    | (simp only [strBin] at h ⊢
       obtain ⟨h3, h4⟩ := req_some h
       exact ⟨_, fun k' => by rw [h3]; rfl⟩)
    | cases h
theorem sliceA_uni {R : Type} {i : TI} {l h : Int → Option Int} {k : AV → Option R} {r : R} {x : AV} (hh : sliceA i m l h k x = some r) : ∃ v, ∀ {R' : Type} (k' : AV → Option R'), sliceA i m l h k' x = k' v := by
  have br : ∀ (b : Bool) (d : Int) (n : Nat) (f : Int → Int → AV), (bif b then (match l 0, h d with | some l, some h => req (sub3 l h n) (k (f l h)) | _, _ => none) else none) = some r →
      ∃ v, ∀ {R' : Type} (k' : AV → Option R'), (bif b then (match l 0, h d with | some l, some h => req (sub3 l h n) (k' (f l h)) | _, _ => none) else none) = k' v := by
    intro b d n f h1
    obtain ⟨h2, h3⟩ := bif_some h1
    split at h3
    · rename_i p q e1 e2
      obtain ⟨h4, h5⟩ := req_some h3
      exact ⟨f p q, fun k' => by rw [h2]; simp only [cond_true, h4, req]⟩
    · cases h3
  cases x with
  | d t xs =>
    cases t with
    | str => exact br _ _ _ _ hh
    | slice e => exact br _ _ _ _ hh
    | _ => cases hh
  | nl => exact br _ _ _ (fun _ _ => .nl) hh
  | sl τ =>
    simp only [sliceA] at hh ⊢
    cases hm : mget τ m with
    | row e xs => rw [hm] at hh; exact br _ _ _ _ hh
    | frz e xs => rw [hm] at hh; exact br _ _ _ _ hh
    | _ => rw [hm] at hh; cases hh
  | vw τ lo q sz => exact br _ _ _ _ hh
  | _ => cases hh
theorem fmSel_uni {R : Type} {n : Int} {z : Option R} {k : AV → Option R} {r : R} : ∀ {ks : List Int} {vs : AV}, fmSel n z k ks vs = some r →
    ((∀ {R' : Type} (z' : Option R') (k' : AV → Option R'), fmSel n z' k' ks vs = z') ∧ z = some r) ∨ ∃ v, (∀ {R' : Type} (z' : Option R') (k' : AV → Option R'), fmSel n z' k' ks vs = k' v) ∧ k v = some r
  | [], vs, h => .inl ⟨fun _ _ => rfl, h⟩
  | a :: ks, vs, h => by
    cases vs with
    | cons v vs =>
      simp only [fmSel] at h ⊢
      cases hb : eqI n a with
      | true => rw [hb] at h; exact .inr ⟨v, fun _ _ => rfl, h⟩
      | false => rw [hb] at h; exact fmSel_uni (ks := ks) (vs := vs) h
    | _ => cases h
theorem casesIdx_uni {R : Type} {n : Int} {k : Sel → Option R} {r : R} : ∀ {l : List Sel} {j : Nat}, casesIdx n l j k = some r → ∃ s, (∀ {R' : Type} (k' : Sel → Option R'), casesIdx n l j k' = k' s) ∧ k s = some r
  | [], j, h => by cases h
  | s :: l, j, h => by
    simp only [casesIdx] at h ⊢
    cases hb : (n == (j : Int)) with
    | true => rw [hb] at h; exact ⟨s, fun k' => rfl, h⟩
    | false => rw [hb] at h; exact casesIdx_uni h
/-- It goes on in one way alone. -/
def UniR {R : Type} (C : Ctx) (m : Mem) (op : Op) (ty : TypeId) (fr : Fr) (N : Nat) : Prop :=
  (∃ v δ N', ∀ {R' : Type} (k' kp' : AV → Mem → Nat → Option R'), aop C op ty fr m N k' kp' = k' v (δ ++ m) N') ∨
  (∃ v δ N', ∀ {R' : Type} (k' kp' : AV → Mem → Nat → Option R'), aop C op ty fr m N k' kp' = kp' v (δ ++ m) N')
theorem aop_uni (hfx : (∀ f cl s, fxget f cl C.fx = some s → s.Uni) ∧ (∀ id sl s, ysget id C.ys = some (sl, s) → s.Uni) ∧ ∀ (R : Type) f cl args m N k kp, C.miss (R := R) f cl args m N k kp = none) {R : Type} {op : Op} {ty : TypeId} {fr : Fr} {N : Nat} {k kp : AV → Mem → Nat → Option R} {r : R} (h : aop C op ty fr m N k kp = some r) :
    (∃ v δ N', ∀ {R' : Type} (k' kp' : AV → Mem → Nat → Option R'), aop C op ty fr m N k' kp' = k' v (δ ++ m) N') ∨
    (∃ v δ N', ∀ {R' : Type} (k' kp' : AV → Mem → Nat → Option R'), aop C op ty fr m N k' kp' = kp' v (δ ++ m) N') := by
  cases op with
  | move x => exact .inl ⟨_, [], _, fun k' kp' => rfl⟩
  | assign x => exact .inl ⟨_, [], _, fun k' kp' => rfl⟩
  | pick c a b =>
    simp only [aop] at h ⊢
    cases hq : ev fr c with
    | d ty b =>
      cases ty with
      | bool =>
        rw [hq] at h
        simp only at h ⊢
        cases b with
        | true => exact .inl ⟨_, [], _, fun k' kp' => rfl⟩
        | false => exact .inl ⟨_, [], _, fun k' kp' => rfl⟩
      | _ => rw [hq] at h; cases h
    | _ => rw [hq] at h; cases h
  | alloc t =>
    simp only [aop] at h ⊢
    cases hi : tget t C.tb with
    | none => rw [hi] at h; cases h
    | some i => exact .inl ⟨_, [_], _, fun k' kp' => rfl⟩
  | box t x =>
    simp only [aop] at h ⊢
    obtain ⟨h1, h2⟩ := bif_some h
    exact .inl ⟨_, [_], _, fun k' kp' => by rw [h1]; rfl⟩
  | build t parts =>
    simp only [aop] at h ⊢
    cases hi : tget t C.tb with
    | none => rw [hi] at h; cases h
    | some i =>
      rw [hi] at h
      simp only at h ⊢
      obtain ⟨h1, h2⟩ := bif_some h
      clear h
      split at h2
      · rename_i v hv
        obtain ⟨h3, h4⟩ := bif_some h2
        exact .inl ⟨v, [], _, fun k' kp' => by rw [h1]; simp only [cond_true, hv, h3]; rfl⟩
      · cases h2
  | buildSlice t n parts =>
    simp only [aop] at h ⊢
    cases hi : tget t C.tb with
    | none => rw [hi] at h; cases h
    | some i =>
      rw [hi] at h
      simp only at h ⊢
      obtain ⟨δ, hδ⟩ := frzL_pre (toksL (parts.toList.map fun p => ev fr p.2)) m
      split at h
      · rename_i xs hx
        obtain ⟨h3, h4⟩ := bif_some h
        exact .inl ⟨_, (N, .row i.ety xs) :: δ, _, fun k' kp' => by simp only [h3, cond_true, hδ]; rfl⟩
      · cases h
  | load t a =>
    simp only [aop] at h ⊢
    cases hi : tget t C.tb with
    | none => rw [hi] at h; cases h
    | some i =>
      rw [hi] at h
      simp only at h ⊢
      obtain ⟨v, hv⟩ := loadA_uni h
      rw [hv] at h
      obtain ⟨h1, h2⟩ := bif_some h
      exact .inl ⟨v, [], _, fun k' kp' => by rw [hv, h1]; rfl⟩
  | store t a x =>
    simp only [aop] at h ⊢
    cases hi : tget t C.tb with
    | none => rw [hi] at h; cases h
    | some i =>
      rw [hi] at h
      simp only at h ⊢
      obtain ⟨h1, h2⟩ := bif_some h
      obtain ⟨δ, hδ⟩ := storeA_uni h2
      exact .inl ⟨_, δ, _, fun k' kp' => by rw [h1]; simp only [cond_true]; rw [hδ]⟩
  | binOp op t x y t' =>
    simp only [aop] at h ⊢
    split at h
    · rename_i kx a ky b e1 e2
      obtain ⟨v, hv⟩ := intBin_uni h
      exact .inl ⟨v, [], _, fun k' kp' => by simp only [hv]; rfl⟩
    · rename_i a b e1 e2
      obtain ⟨v, hv⟩ := strBin_uni h
      exact .inl ⟨v, [], _, fun k' kp' => by simp only [hv]; rfl⟩
    · cases hi : tget t C.tb with
      | none => rw [hi] at h; cases h
      | some i =>
        rw [hi] at h
        simp only at h ⊢
        obtain ⟨h1, h2⟩ := bif_some h
        clear h
        split at h2
        · rename_i p q hp hq
          obtain ⟨v, hv⟩ := eqSel_uni h2
          exact .inl ⟨v, [], _, fun k' kp' => by rw [h1]; simp only [cond_true]; rw [hv]; rfl⟩
        · cases h2
  | unOp op t x =>
    cases op with
    | not =>
      simp only [aop] at h ⊢
      cases hq : ev fr x with
      | d ty b =>
        cases ty with
        | bool => exact .inl ⟨_, [], _, fun k' kp' => rfl⟩
        | _ => rw [hq] at h; cases h
      | _ => rw [hq] at h; cases h
    | _ => cases h
  | fieldAddr t x f =>
    simp only [aop] at h ⊢
    cases hi : tget t C.tb with
    | none => rw [hi] at h; cases h
    | some i =>
      rw [hi] at h
      simp only at h ⊢
      obtain ⟨h1, h2⟩ := bif_some h
      clear h
      rw [h1]
      cases hq : ev fr x with
      | ptr τ p => exact .inl ⟨_, [], _, fun k' kp' => rfl⟩
      | pv t x =>
        rw [hq] at h2
        simp only [cond_true] at h2 ⊢
        split at h2
        · rename_i t' x' hs
          obtain ⟨h3, h4⟩ := bif_some h2
          exact .inl ⟨_, [], _, fun k' kp' => by rw [h3]; rfl⟩
        · cases h2
      | _ => rw [hq] at h2; cases h2
  | field t x f =>
    simp only [aop] at h ⊢
    cases hi : tget t C.tb with
    | none => rw [hi] at h; cases h
    | some i =>
      rw [hi] at h
      simp only at h ⊢
      obtain ⟨h1, h2⟩ := bif_some h
      clear h
      rw [h1]
      simp only [cond_true]
      cases hs : (ev fr x).sel (getAt .inn i.flds f) with
      | none => rw [hs] at h2; cases h2
      | some v =>
        rw [hs] at h2
        obtain ⟨h3, h4⟩ := bif_some h2
        exact .inl ⟨v, [], _, fun k' kp' => by simp only [h3, cond_true]; rfl⟩
  | indexAddr t x ix =>
    simp only [aop] at h ⊢
    cases hi : tget t C.tb with
    | none => rw [hi] at h; cases h
    | some i =>
      rw [hi] at h
      simp only at h ⊢
      generalize ev fr x = u at *
      generalize ev fr ix = v at *
      split at h
      · obtain ⟨h1, h2⟩ := bif_some h
        obtain ⟨h3, h4⟩ := req_some h2
        exact .inl ⟨_, [], _, fun k' kp' => by simp only [h1, h3, req, cond_true]; rfl⟩
      · split at h
        · rename_i hm
          obtain ⟨h1, h2⟩ := bif_some h
          obtain ⟨h3, h4⟩ := req_some h2
          exact .inl ⟨_, [], _, fun k' kp' => by simp only [h1, h3, req, cond_true]; rfl⟩
        · rename_i hm
          obtain ⟨h1, h2⟩ := bif_some h
          obtain ⟨h3, h4⟩ := req_some h2
          exact .inl ⟨_, [], _, fun k' kp' => by simp only [h1, h3, req, cond_true]; rfl⟩
        · cases h
      · split at h
        · rename_i hm
          obtain ⟨h1, h2⟩ := bif_some h
          obtain ⟨h3, h4⟩ := req_some h2
          exact .inl ⟨_, [], _, fun k' kp' => by simp only [h1, h3, req, cond_true]; rfl⟩
        · rename_i hm
          obtain ⟨h1, h2⟩ := bif_some h
          obtain ⟨h3, h4⟩ := req_some h2
          exact .inl ⟨_, [], _, fun k' kp' => by simp only [h1, h3, req, cond_true]; rfl⟩
        · cases h
      · rename_i τ p kk n
        cases hb : Nat.beq i.kind 3 with
        | true =>
          rw [hb] at h
          simp only [cond_true] at h ⊢
          obtain ⟨h3, h4⟩ := req_some h
          exact .inl ⟨_, [], _, fun k' kp' => by simp only [h3, req, cond_true]; rfl⟩
        | false =>
          rw [hb] at h
          simp only [cond_false] at h ⊢
          obtain ⟨h1, h2⟩ := bif_some h
          obtain ⟨s, hs, _⟩ := casesIdx_uni h2
          exact .inl ⟨_, [], _, fun k' kp' => by rw [h1]; simp only [cond_true]; rw [hs]; rfl⟩
      · cases h
  | index t x ix =>
    simp only [aop] at h ⊢
    cases hi : tget t C.tb with
    | none => rw [hi] at h; cases h
    | some i =>
      rw [hi] at h
      simp only at h ⊢
      generalize ev fr x = u at *
      generalize ev fr ix = v at *
      split at h
      · obtain ⟨h1, h2⟩ := bif_some h
        obtain ⟨h3, h4⟩ := req_some h2
        exact .inl ⟨_, [], _, fun k' kp' => by simp only [h1, h3, req, cond_true]; rfl⟩
      · obtain ⟨h1, h2⟩ := bif_some h
        obtain ⟨s, hs, h5⟩ := casesIdx_uni h2
        split at h5
        · rename_i v' hv'
          obtain ⟨h6, h7⟩ := bif_some h5
          exact .inl ⟨_, [], _, fun k' kp' => by rw [h1]; simp only [cond_true]; rw [hs]; simp only [hv', h6, cond_true]; rfl⟩
        · cases h5
      · cases h
  | extract t i =>
    simp only [aop] at h ⊢
    cases hq : ev fr t with
    | tu vs =>
      rw [hq] at h
      obtain ⟨h1, h2⟩ := bif_some h
      exact .inl ⟨_, [], _, fun k' kp' => by simp only [h1, cond_true]; rfl⟩
    | _ => rw [hq] at h; cases h
  | makeFunc f first cap =>
    cases f with
    | func f => exact .inl ⟨_, [], _, fun k' kp' => rfl⟩
    | _ => cases h
  | slice t x lo hi mx =>
    cases mx with
    | some v => cases h
    | none =>
      simp only [aop] at h ⊢
      cases hi : tget t C.tb with
      | none => rw [hi] at h; cases h
      | some i =>
        rw [hi] at h
        obtain ⟨v, hv⟩ := sliceA_uni h
        exact .inl ⟨v, [], _, fun k' kp' => hv _⟩
  | makeSlice t x y =>
    simp only [aop] at h ⊢
    split at h
    · rename_i i k1 n k2 c e1 e2 e3
      obtain ⟨h1, h2⟩ := bif_some h
      obtain ⟨h3, h4⟩ := req_some h2
      exact .inl ⟨_, [_], _, fun k' kp' => by rw [h1]; simp only [cond_true, h3, req]; rfl⟩
    · cases h
  | convert s t x =>
    simp only [aop] at h ⊢
    split at h
    · rename_i i j kk n h1 h2 h3
      split at h
      · rename_i kd hk
        obtain ⟨h4, h5⟩ := bif_some h
        exact .inl ⟨_, [], _, fun k' kp' => by simp only [h4, cond_true]; rfl⟩
      · cases h
    · cases h
  | nilCheck x =>
    simp only [aop] at h ⊢
    cases hq : ev fr x with
    | ptr τ p => exact .inl ⟨.ptr τ p, [], N, fun k' kp' => by simp⟩
    | pv t y => exact .inl ⟨.pv t y, [], N, fun k' kp' => by simp⟩
    | ifc t v => exact .inl ⟨.ifc t v, [], N, fun k' kp' => by simp⟩
    | fn f u v => exact .inl ⟨.fn f u v, [], N, fun k' kp' => by simp⟩
    | _ => rw [hq] at h; cases h
  | makeInterface t x =>
    simp only [aop] at h ⊢
    cases hi : tget t C.tb with
    | none => rw [hi] at h; cases h
    | some i =>
      rw [hi] at h
      obtain ⟨h1, h2⟩ := bif_some h
      exact .inl ⟨.ifc t (ev fr x), [], N, fun k' kp' => by simp [h1]⟩
  | typeAssert x s t ok =>
    simp only [aop] at h ⊢
    cases hi : tget t C.tb with
    | none => rw [hi] at h; cases h
    | some i =>
      rw [hi] at h
      simp only at h ⊢
      cases hq : ev fr x with
      | ifc t' v =>
        rw [hq] at h
        obtain ⟨h1, h2⟩ := bif_some h
        cases ok with
        | true => exact .inl ⟨_, [], N, fun k' kp' => by simp only [h1, cond_true]; rfl⟩
        | false => exact .inl ⟨_, [], N, fun k' kp' => by simp only [h1, cond_true, cond_false]; rfl⟩
      | nili =>
        rw [hq] at h
        obtain ⟨h1, h2⟩ := bif_some h
        exact .inl ⟨_, [], N, fun k' kp' => by simp only [h1, cond_true]; rfl⟩
      | _ => rw [hq] at h; cases h
  | panic x =>
    simp only [aop] at h ⊢
    cases hq : ev fr x with
    | ifc t v => exact .inr ⟨.ifc t v, [], N, fun k' kp' => by simp⟩
    | _ => rw [hq] at h; cases h
  | makeMap t rs =>
    simp only [aop] at h ⊢
    cases hi : tget t C.tb with
    | none => rw [hi] at h; cases h
    | some i =>
      rw [hi] at h
      simp only at h ⊢
      cases h1 : (Nat.beq i.kind 6 && i.mky) with
      | true =>
        rw [h1, cond_true] at h
        cases rs with
        | none => exact .inl ⟨.mp N, [_], N + 1, fun k' kp' => by simp only [h1, cond_true]; rfl⟩
        | some x =>
          simp only at h ⊢
          split at h
          · rename_i kd n hx
            exact .inl ⟨.mp N, [_], N + 1, fun k' kp' => by simp only [h1, cond_true, hx]; rfl⟩
          · cases h
      | false =>
        rw [h1, cond_false] at h
        obtain ⟨h2, h3⟩ := bif_some h
        cases rs with
        | none => exact .inl ⟨.mp N, [(N, .fm [] .nil)], N + 1, fun k' kp' => by simp only [h1, h2, cond_true, cond_false]; rfl⟩
        | some x =>
          simp only at h3 ⊢
          split at h3
          · rename_i kd n hx
            exact .inl ⟨.mp N, [(N, .fm [] .nil)], N + 1, fun k' kp' => by simp only [h1, h2, cond_true, cond_false, hx]; rfl⟩
          · cases h3
  | lookup t x ix ok =>
    simp only [aop] at h ⊢
    cases hi : tget t C.tb with
    | none => rw [hi] at h; cases h
    | some i =>
      rw [hi] at h
      simp only at h ⊢
      cases h1 : (Nat.beq i.kind 6 && i.mky) with
      | false =>
        rw [h1, cond_false] at h
        obtain ⟨h2, h3⟩ := bif_some h
        split at h3
        · rename_i n τ ks vs e1 e2
          rcases fmSel_uni h3 with ⟨q1, _⟩ | ⟨v, q1, _⟩
          · cases ok with
            | true => exact .inl ⟨_, [], N, fun k' kp' => by simp only [h1, h2, e1, e2, cond_true, cond_false, q1]; rfl⟩
            | false => exact .inl ⟨_, [], N, fun k' kp' => by simp only [h1, h2, e1, e2, cond_true, cond_false, q1]; rfl⟩
          · cases ok with
            | true => exact .inl ⟨_, [], N, fun k' kp' => by simp only [h1, h2, e1, e2, cond_true, cond_false, q1]; rfl⟩
            | false => exact .inl ⟨_, [], N, fun k' kp' => by simp only [h1, h2, e1, e2, cond_true, cond_false, q1]; rfl⟩
        · cases h3
      | true =>
        rw [h1, cond_true] at h
        have h2 := h
        clear h
        split at h2
        · rename_i key hkey
          split at h2
          · rename_i hq
            cases ok with
            | true => exact .inl ⟨_, [], N, fun k' kp' => by simp only [h1, hkey, hq, cond_true]; rfl⟩
            | false => exact .inl ⟨_, [], N, fun k' kp' => by simp only [h1, hkey, hq, cond_true, cond_false]; rfl⟩
          · rename_i hne
            split at h2
            · rename_i τ l hm
              cases hq : ev fr x with
              | mp σ =>
                rw [hq] at hm
                cases ok with
                | true => exact .inl ⟨_, [], N, fun k' kp' => by simp only [h1, hkey, hm, cond_true]; rfl⟩
                | false => exact .inl ⟨_, [], N, fun k' kp' => by simp only [h1, hkey, hm, cond_true, cond_false]; rfl⟩
              | _ => rw [hq] at hm; cases hm
            · cases h2
        · cases h2
  | mapUpdate t x kk v =>
    simp only [aop] at h ⊢
    cases hi : tget t C.tb with
    | none => rw [hi] at h; cases h
    | some i =>
      rw [hi] at h
      simp only at h ⊢
      cases h1 : (Nat.beq i.kind 6 && i.mky) with
      | true =>
        rw [h1, cond_true] at h
        obtain ⟨δ, hδ⟩ := frzL_pre (ev fr v).toks m
        split at h
        · rename_i key y τ l e1 e2 e3
          rw [hδ] at e2 e3
          exact .inl ⟨.dead, (τ, .mp i.kty i.ety (mputK key y l)) :: δ, N, fun k' kp' => by simp only [h1, cond_true, hδ, e1, e2, e3]; rfl⟩
        · cases h
      | false =>
        rw [h1, cond_false] at h
        obtain ⟨h2, h3⟩ := bif_some h
        split at h3
        · rename_i n τ ks vs e1 e2
          obtain ⟨h4, _⟩ := bif_some h3
          exact .inl ⟨.dead, [(τ, .fm (snocI ks n) (vs.snoc (ev fr v)))], N, fun k' kp' => by simp only [h1, h2, e1, e2, h4, cond_true, cond_false]; rfl⟩
        · cases h3
  | insert t x kk v =>
    simp only [aop] at h ⊢
    cases hi : tget t C.tb with
    | none => rw [hi] at h; cases h
    | some i =>
      rw [hi] at h
      simp only at h ⊢
      cases h1 : (Nat.beq i.kind 6 && i.mky) with
      | true =>
        rw [h1, cond_true] at h
        obtain ⟨δ, hδ⟩ := frzL_pre (ev fr v).toks m
        split at h
        · rename_i key y τ l e1 e2 e3
          rw [hδ] at e2 e3
          exact .inl ⟨.dead, (τ, .mp i.kty i.ety (mputK key y l)) :: δ, N, fun k' kp' => by simp only [h1, cond_true, hδ, e1, e2, e3]; rfl⟩
        · cases h
      | false =>
        rw [h1, cond_false] at h
        obtain ⟨h2, h3⟩ := bif_some h
        split at h3
        · rename_i n τ ks vs e1 e2
          obtain ⟨h4, _⟩ := bif_some h3
          exact .inl ⟨.dead, [(τ, .fm (snocI ks n) (vs.snoc (ev fr v)))], N, fun k' kp' => by simp only [h1, h2, e1, e2, h4, cond_true, cond_false]; rfl⟩
        · cases h3
  | mapEntry t x kk =>
    simp only [aop] at h ⊢
    cases hi : tget t C.tb with
    | none => rw [hi] at h; cases h
    | some i =>
      rw [hi] at h
      obtain ⟨h1, h2⟩ := bif_some h
      split at h2
      · rename_i key τ l e1 e2
        exact .inl ⟨_, [_], N, fun k' kp' => by simp only [h1, cond_true, e1, e2]; rfl⟩
      · cases h2
  | entryStore t x s v =>
    simp only [aop] at h ⊢
    cases hi : tget t C.tb with
    | none => rw [hi] at h; cases h
    | some i =>
      rw [hi] at h
      obtain ⟨h1, h2⟩ := bif_some h
      obtain ⟨δ, hδ⟩ := frzL_pre (ev fr v).toks m
      split at h2
      · rename_i kd n y τ l e1 e2 e3
        obtain ⟨h3, h4⟩ := req_some h2
        rw [hδ] at e2 e3
        exact .inl ⟨.dead, (τ, .mp i.kty i.ety (mset l (toN n) y)) :: δ, N, fun k' kp' => by simp only [h1, cond_true, hδ, e1, e2, e3, h3, req]; rfl⟩
      · cases h2
  | call c =>
    simp only [aop] at h ⊢
    cases hc : c.callee with
    | builtin b =>
      rw [hc] at h
      cases b with
      | clear =>
        simp only at h ⊢
        split at h
        · rename_i x t h1 h2
          split at h
          · rename_i i e1
            obtain ⟨h3, h4⟩ := bif_some h
            split at h4
            · rename_i τ lo n xs e3
              exact .inl ⟨_, [_], _, fun k' kp' => by rw [h3]; simp only [cond_true, e3]; rfl⟩
            · cases h4
          · cases h
        · cases h
      | append =>
        simp only at h ⊢
        split at h
        · rename_i x y t u h1 h2
          split at h
          · rename_i i j e1 e2
            obtain ⟨h3, h4⟩ := bif_some h
            split at h4
            · rename_i τ xs ys e3 e4
              obtain ⟨h5, h6⟩ := req_some h4
              exact .inl ⟨_, [_, _], _, fun k' kp' => by rw [h3]; simp only [cond_true, e3, e4, h5, req]; rfl⟩
            · rename_i xs ys e3 e4
              obtain ⟨h5, h6⟩ := req_some h4
              exact .inl ⟨_, [_], _, fun k' kp' => by rw [h3]; simp only [cond_true, e3, e4, h5, req]; rfl⟩
            · cases h4
          · cases h
        · cases h
      | copy =>
        simp only at h ⊢
        split at h
        · rename_i x y t u h1 h2
          split at h
          · rename_i i e1
            obtain ⟨h3, h4⟩ := bif_some h
            split at h4
            · rename_i τ lo n xs ys e3 e4
              exact .inl ⟨_, [_], _, fun k' kp' => by rw [h3]; simp only [cond_true, e3, e4]; rfl⟩
            · cases h4
          · cases h
        · cases h
      | min =>
        simp only at h ⊢
        split at h
        · rename_i x y h1
          split at h
          · rename_i kx p ky q e1 e2
            exact .inl ⟨_, [], _, fun k' kp' => rfl⟩
          · cases h
        · cases h
      | max =>
        simp only at h ⊢
        split at h
        · rename_i x y h1
          split at h
          · rename_i kx p ky q e1 e2
            exact .inl ⟨_, [], _, fun k' kp' => rfl⟩
          · cases h
        · cases h
      | len =>
        simp only at h ⊢
        split at h
        · rename_i x t h1 h2
          cases hi : tget t C.tb with
          | none => rw [hi] at h; cases h
          | some i =>
            rw [hi] at h
            simp only at h ⊢
            split at h
            · rename_i n hn
              exact .inl ⟨_, [], _, fun k' kp' => rfl⟩
            · cases h
        · cases h
      | _ => cases h
    | value f =>
      rw [hc] at h
      simp only at h ⊢
      cases hq : ev fr f with
      | fn g first cap =>
        rw [hq] at h
        simp only at h ⊢
        split at h
        · rename_i l1 l2 h1 h2
          cases hs : fxget g (closOf (l1 ++ c.args.toList.map (ev fr) ++ l2)) C.fx with
          | none => rw [hs] at h; simp only [hfx.2.2] at h; cases h
          | some s =>
            rw [hs] at h
            exact hfx.1 _ _ _ hs _ _ _ _ _ _ h
        · cases h
      | yl τ =>
        rw [hq] at h
        simp only at h ⊢
        split at h
        · rename_i id slots sv tag hm
          split at h
          · rename_i sl s l hs hl
            obtain ⟨h1, h9⟩ := bif_some h
            clear h
            rcases hfx.2.1 _ _ _ hs _ _ _ _ _ _ h9 with ⟨v, δ, N', hu⟩ | ⟨v, δ, N', hu⟩
            · rw [hu] at h9
              cases v with
              | d ty t =>
                cases ty with
                | int kd =>
                  simp only at h9
                  simp only [h1, cond_true, hu]
                  cases hb : eqI t 0 with
                  | true => exact .inl ⟨.d .bool true, (τ, .lp id slots sv 0) :: (δ ++ [(τ, .gone)]), N', fun k' kp' => by simp⟩
                  | false => exact .inl ⟨.d .bool false, (τ, .lp id slots sv t) :: (δ ++ [(τ, .gone)]), N', fun k' kp' => by simp⟩
                | _ => cases h9
              | _ => cases h9
            · rw [hu] at h9; cases h9
          · cases h
        · cases h
      | _ => rw [hq] at h; cases h
    | _ => rw [hc] at h; cases h
  | _ => cases h
end
end Go.Proofs.Ytkeolcgggondnaa.VX
