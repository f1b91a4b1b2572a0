/- The engine: what of a pattern is exactly what it was matched with. -/
import Derived.Test.YtkeolcgggondnaaVxH
set_option linter.unusedVariables false
set_option linter.unusedSimpArgs false
namespace Go.Proofs.Ytkeolcgggondnaa.VX
def Pat.exact : Pat → AV → Bool
  | .hole _, .d _ _ => true
  | .pr a b, .pr u v => a.exact u && b.exact v
  | .one a, .one u => a.exact u
  | .nl, .nl => true
  | .sl _, .sl _ => true
  | .ptr _ _, .ptr _ _ => true
  | .nilp, .nilp => true
  | .mp _, .mp _ => true
  | .nilm, .nilm => true
  | .fn _ a b, .fn _ u v => a.exact u && b.exact v
  | .nilf, .nilf => true
  | .nili, .nili => true
  | .ifc _ a, .ifc _ u => a.exact u
  | .nil, .nil => true
  | .cons a b, .cons u v => a.exact u && b.exact v
  | _, _ => false
def Blk.isMp : Blk → Bool
  | .mp _ _ _ => true
  | _ => false
def BPat.exact : BPat → Blk → Bool
  | .var p, .var v => p.exact v
  | .mp _ _, .mp _ _ _ => true
  | .fm _ p, .fm _ v => p.exact v
  | _, _ => false
section
variable {m : Mem} {ρ : Nat → Nat} {asF : Asg}
theorem asgn_look {j : Nat} {v : Option Nat} {as as' : Asg} (h : asgn j v as = some as') : alook j as' = some v := (asgn_ok h).2
theorem pat_exact (hρ : ∀ j τ, alook j asF = some (some τ) → ρ j = τ) : ∀ (p : Pat) (v : AV) (as : Asg) (ds : List Dyn) (as' : Asg), p.mt m v as = some (ds, as') → p.exact v = true → Sub as' asF → ∀ rest,
    (p.fill (ds ++ rest)).1.ren ρ = v ∧ (p.fill (ds ++ rest)).2 = rest
  | .hole t, .d t' x, as, ds, as', h, _, _, rest => by
    simp only [Pat.mt] at h
    split at h
    · rename_i y hy
      cases h
      have hy : Ty.conv t' t x = some y := by cases t <;> exact hy
      obtain ⟨e, he⟩ := conv_some hy
      cases e
      have he : y = x := he
      subst he
      exact ⟨rfl, rfl⟩
    · cases h
  | .pr a b, .pr u v, as, ds, as', h, hx, hs, rest => by
    simp only [Pat.exact, Bool.and_eq_true] at hx
    simp only [Pat.mt, AV.split] at h
    split at h
    · rename_i d1 as1 h1
      split at h
      · rename_i d2 as2 h2
        cases h
        have s1 : Sub as1 asF := (blksMt_all.mt_sub h2).trans hs
        obtain ⟨q1, q2⟩ := pat_exact hρ a u as d1 as1 h1 hx.1 s1 (d2 ++ rest)
        obtain ⟨q3, q4⟩ := pat_exact hρ b v as1 d2 as' h2 hx.2 hs rest
        simp only [Pat.fill, AV.ren, List.append_assoc, q1, q2, q3, q4, and_self]
      · cases h
    · cases h
  | .one a, .one u, as, ds, as', h, hx, hs, rest => by
    simp only [Pat.mt, AV.sel] at h
    obtain ⟨q1, q2⟩ := pat_exact hρ a u as ds as' h hx hs rest
    simp only [Pat.fill, AV.ren, q1, q2, and_self]
  | .nl, .nl, as, ds, as', h, _, _, rest => by cases h; exact ⟨rfl, rfl⟩
  | .sl j, .sl τ, as, ds, as', h, _, hs, rest => by
    obtain ⟨e, h'⟩ := noneL_ok (x := asgn j (some τ) as) h
    subst e
    have := hρ j τ (hs _ _ (asgn_look h'))
    simp only [Pat.fill, AV.ren, this]; exact ⟨trivial, rfl⟩
  | .ptr j p, .ptr τ q, as, ds, as', h, _, hs, rest => by
    simp only [Pat.mt] at h
    obtain ⟨hp, h2⟩ := bif_some h
    obtain ⟨e, h'⟩ := noneL_ok h2
    subst e
    have := hρ j τ (hs _ _ (asgn_look h'))
    rw [pathBeq_ok p q hp]
    simp only [Pat.fill, AV.ren, this]; exact ⟨trivial, rfl⟩
  | .nilp, .nilp, as, ds, as', h, _, _, rest => by cases h; exact ⟨rfl, rfl⟩
  | .mp j, .mp τ, as, ds, as', h, _, hs, rest => by
    obtain ⟨e, h'⟩ := noneL_ok (x := asgn j (some τ) as) h
    subst e
    have := hρ j τ (hs _ _ (asgn_look h'))
    simp only [Pat.fill, AV.ren, this]; exact ⟨trivial, rfl⟩
  | .nilm, .nilm, as, ds, as', h, _, _, rest => by cases h; exact ⟨rfl, rfl⟩
  | .fn f a b, .fn f' u v, as, ds, as', h, hx, hs, rest => by
    simp only [Pat.exact, Bool.and_eq_true] at hx
    simp only [Pat.mt] at h
    obtain ⟨hf, h⟩ := bif_some h
    have hf : f = f' := Nat.eq_of_beq_eq_true hf
    split at h
    · rename_i d1 as1 h1
      split at h
      · rename_i d2 as2 h2
        cases h
        have s1 : Sub as1 asF := (blksMt_all.mt_sub h2).trans hs
        obtain ⟨q1, q2⟩ := pat_exact hρ a u as d1 as1 h1 hx.1 s1 (d2 ++ rest)
        obtain ⟨q3, q4⟩ := pat_exact hρ b v as1 d2 as' h2 hx.2 hs rest
        simp only [Pat.fill, AV.ren, List.append_assoc, q1, q2, q3, q4, hf, and_self]
      · cases h
    · cases h
  | .nilf, .nilf, as, ds, as', h, _, _, rest => by cases h; exact ⟨rfl, rfl⟩
  | .nili, .nili, as, ds, as', h, _, _, rest => by cases h; exact ⟨rfl, rfl⟩
  | .ifc t a, .ifc t' u, as, ds, as', h, hx, hs, rest => by
    simp only [Pat.mt] at h
    obtain ⟨ht, h⟩ := bif_some h
    have ht : t = t' := Nat.eq_of_beq_eq_true ht
    obtain ⟨q1, q2⟩ := pat_exact hρ a u as ds as' h hx hs rest
    simp only [Pat.fill, AV.ren, q1, q2, ht, and_self]
  | .nil, .nil, as, ds, as', h, _, _, rest => by cases h; exact ⟨rfl, rfl⟩
  | .cons a b, .cons u v, as, ds, as', h, hx, hs, rest => by
    simp only [Pat.exact, Bool.and_eq_true] at hx
    simp only [Pat.mt] at h
    split at h
    · rename_i d1 as1 h1
      split at h
      · rename_i d2 as2 h2
        cases h
        have s1 : Sub as1 asF := (blksMt_all.mt_sub h2).trans hs
        obtain ⟨q1, q2⟩ := pat_exact hρ a u as d1 as1 h1 hx.1 s1 (d2 ++ rest)
        obtain ⟨q3, q4⟩ := pat_exact hρ b v as1 d2 as' h2 hx.2 hs rest
        simp only [Pat.fill, AV.ren, List.append_assoc, q1, q2, q3, q4, and_self]
      · cases h
    · cases h
theorem bpat_exact (hρ : ∀ j τ, alook j asF = some (some τ) → ρ j = τ) {b : BPat} {B : Blk} {as : Asg} {ds : List Dyn} {as' : Asg} (h : b.mt m B as = some (ds, as')) (hx : b.exact B = true) (hs : Sub as' asF) (rest : List Dyn) :
    (b.fill (ds ++ rest)).1.ren ρ = B ∧ (b.fill (ds ++ rest)).2 = rest := by
  cases b with
  | var p =>
    cases B <;> first | (cases hx; done) | skip
    rename_i v
    simp only [BPat.mt] at h
    obtain ⟨_, h⟩ := bif_some h
    obtain ⟨q1, q2⟩ := pat_exact hρ p v as ds as' h hx hs rest
    simp only [BPat.fill, Blk.ren, q1, q2, and_self]
  | fm ks p =>
    cases B <;> first | (cases hx; done) | skip
    rename_i ks' v
    simp only [BPat.mt] at h
    obtain ⟨hk, h⟩ := bif_some h
    obtain ⟨q1, q2⟩ := pat_exact hρ p v as ds as' h hx hs rest
    simp only [BPat.fill, Blk.ren, q1, q2, beqIs_eq hk, and_self]
  | mp kt vt =>
    cases B <;> first | (cases hx; done) | skip
    rename_i k' v' l
    simp only [BPat.mt] at h
    split at h
    · rename_i ys hy
      cases h
      obtain ⟨e, he⟩ := conv_some hy
      cases e
      have he : ys = l := he
      subst he
      exact ⟨rfl, rfl⟩
    · cases h
  | _ => cases B <;> cases hx
/-- All blocks are exactly of their patterns' form. -/
def blksExact (m : Mem) (as : Asg) : List BPat → Nat → Bool
  | [], _ => true
  | b :: l, j => (match alook j as with
    | some (some τ) => b.exact (mget τ m)
    | _ => false) && blksExact m as l (j + 1)
theorem blks_exact (hρ : ∀ j τ, alook j asF = some (some τ) → ρ j = τ) : ∀ (l : List BPat) (j : Nat) (as : Asg) (ds : List Dyn) (as' : Asg), blksMt m l j as = some (ds, as') → blksExact m asF l j = true → Sub as' asF → ∀ rest,
    ∀ q ∈ renMem ρ (blksFill l j (ds ++ rest)).1, q.2 = mget q.1 m
  | [], _, _, _, _, _, _, _, _ => fun q hq => by cases hq
  | b :: l, j, as, ds, as', h, hx, hs, rest => by
    simp only [blksExact, Bool.and_eq_true] at hx
    obtain ⟨hx1, hx2⟩ := hx
    have hall := (blksMt_all (b :: l) j as ds as' h).2
    simp only [blksMt] at h
    split at h
    · rename_i τ hτ
      have hτF : alook j asF = some (some τ) := hs _ _ (hall _ _ hτ)
      rw [hτF] at hx1
      split at h
      · rename_i d1 as1 h1
        split at h
        · rename_i d2 as2 h2
          cases h
          have s1 : Sub as1 asF := fun a o e => hs _ _ ((blksMt_all l (j + 1) as1 d2 as' h2).2 a o e)
          obtain ⟨q1, q2⟩ := bpat_exact hρ h1 hx1 s1 (d2 ++ rest)
          intro q hq
          simp only [blksFill, renMem, List.append_assoc, q2, List.mem_cons] at hq
          rcases hq with rfl | hq
          · show (b.fill (d1 ++ (d2 ++ rest))).1.ren ρ = mget (ρ j) m
            rw [q1, hρ j τ hτF]
          · exact blks_exact hρ l (j + 1) as1 d2 as' h2 hx2 hs rest q hq
        · cases h
      · cases h
    · rename_i hτ
      have hτF : alook j asF = some none := hs _ _ (hall _ _ hτ)
      rw [hτF] at hx1; cases hx1
    · cases h
theorem mget_same (σ : Nat) : ∀ (l : Mem), (∀ q ∈ l, q.2 = mget q.1 m) → mget σ (l ++ m) = mget σ m
  | [], _ => rfl
  | (τ, B) :: l, h => by
    rw [List.cons_append, mget_cons]
    split
    · rename_i e; subst e; exact h (τ, B) (List.mem_cons_self ..)
    · exact mget_same σ l (fun q hq => h q (List.mem_cons_of_mem _ hq))
end
theorem pat_rest {m : Mem} : ∀ (p : Pat) (v : AV) (as : Asg) (ds : List Dyn) (as' : Asg), p.mt m v as = some (ds, as') → ∀ rest, (p.fill (ds ++ rest)).2 = rest
  | .hole t, v, as, ds, as', h, rest => by simp only [Pat.mt] at h; split at h <;> cases h; rfl
  | .hpv t, v, as, ds, as', h, rest => by
    cases v <;> first | (cases h; done) | skip
    simp only [Pat.mt] at h; split at h <;> cases h; rfl
  | .pr a b, v, as, ds, as', h, rest => by
    simp only [Pat.mt] at h
    split at h
    · split at h
      · rename_i h1
        split at h
        · rename_i h2; cases h
          simp only [Pat.fill, List.append_assoc, pat_rest a _ _ _ _ h1, pat_rest b _ _ _ _ h2]
        · cases h
      · cases h
    · cases h
  | .one a, v, as, ds, as', h, rest => by
    simp only [Pat.mt] at h
    split at h
    · simp only [Pat.fill]; exact pat_rest a _ _ _ _ h rest
    · cases h
  | .nl, v, as, ds, as', h, rest => by cases v <;> cases h; rfl
  | .sl j, v, as, ds, as', h, rest => by
    cases v <;> first | (cases h; done) | (obtain ⟨e, _⟩ := noneL_ok h; subst e; rfl)
  | .ptr j p, v, as, ds, as', h, rest => by
    cases v <;> first | (cases h; done) | skip
    simp only [Pat.mt] at h
    obtain ⟨e, _⟩ := noneL_ok (bif_some h).2
    subst e; rfl
  | .nilp, v, as, ds, as', h, rest => by cases v <;> cases h; rfl
  | .mp j, v, as, ds, as', h, rest => by
    cases v <;> first | (cases h; done) | (obtain ⟨e, _⟩ := noneL_ok h; subst e; rfl)
  | .nilm, v, as, ds, as', h, rest => by cases v <;> cases h; rfl
  | .fn f a b, v, as, ds, as', h, rest => by
    cases v <;> first | (cases h; done) | skip
    simp only [Pat.mt] at h
    have h := (bif_some h).2
    split at h
    · rename_i h1
      split at h
      · rename_i h2; cases h
        simp only [Pat.fill, List.append_assoc, pat_rest a _ _ _ _ h1, pat_rest b _ _ _ _ h2]
      · cases h
    · cases h
  | .nilf, v, as, ds, as', h, rest => by cases v <;> cases h; rfl
  | .nili, v, as, ds, as', h, rest => by cases v <;> cases h; rfl
  | .yl j, v, as, ds, as', h, rest => by
    cases v <;> first | (cases h; done) | (obtain ⟨e, _⟩ := noneL_ok h; subst e; rfl)
  | .ifc t a, v, as, ds, as', h, rest => by
    cases v <;> first | (cases h; done) | skip
    simp only [Pat.mt] at h
    simp only [Pat.fill]; exact pat_rest a _ _ _ _ (bif_some h).2 rest
  | .nil, v, as, ds, as', h, rest => by cases v <;> cases h; rfl
  | .cons a b, v, as, ds, as', h, rest => by
    cases v <;> first | (cases h; done) | skip
    simp only [Pat.mt] at h
    split at h
    · rename_i h1
      split at h
      · rename_i h2; cases h
        simp only [Pat.fill, List.append_assoc, pat_rest a _ _ _ _ h1, pat_rest b _ _ _ _ h2]
      · cases h
    · cases h
  | .dead, v, as, ds, as', h, rest => by
    simp only [Pat.mt] at h
    have h := (bif_some h).2
    cases h; rfl
theorem slots_rest {m : Mem} {fr : Fr} : ∀ (l : List (Nat × Pat)) (as : Asg) (ds : List Dyn) (as' : Asg), slotsMt m l fr as = some (ds, as') → ∀ rest, (slotsFill l (ds ++ rest)).2 = rest
  | [], as, ds, as', h, rest => by cases h; rfl
  | (n, p) :: l, as, ds, as', h, rest => by
    simp only [slotsMt] at h
    split at h
    · rename_i h1
      split at h
      · rename_i h2; cases h
        simp only [slotsFill, List.append_assoc, pat_rest p _ _ _ _ h1, slots_rest l _ _ _ h2]
      · cases h
    · cases h
/-- A function that takes what has a shape, and only reads. -/
def roOK (sh ro : Shape) (m : Mem) (as : Asg) : Bool := (Nat.beq ro.pin sh.bl.length && Nat.beq ro.bl.length sh.bl.length) && blksExact m as sh.bl 0
def Spec.shpR (sh ro : Shape) (F : HL sh.ts → Option (HL ro.ts)) : Spec where
  run args m N k kp := bif Nat.beq args.length sh.sl.length then match sh.getA (initFr 0 args) m with
    | some (x, as) => (F x).bind fun y => k ((outAV (ro.fr y)).ren (rho ro.pin as N))
        (bif roOK sh ro (frzL (sh.fzs (initFr 0 args) m) m) as then frzL (sh.fzs (initFr 0 args) m) m else renMem (rho ro.pin as N) (ro.mem y) ++ (dropA as ro.pin (sh.bl.length - ro.pin) ++ frzL (sh.fzs (initFr 0 args) m) m)) (N + ro.bl.length)
    | none => none else none
theorem shpR_same {sh ro : Shape} {F : HL sh.ts → Option (HL ro.ts)} (hk : ∀ x y, F x = some y → ro.mem y = sh.mem x) {args : List AV} {m : Mem} {N : Nat} {x : HL sh.ts} {as : Asg} {y : HL ro.ts} (hg : sh.getA (initFr 0 args) m = some (x, as)) (hF : F x = some y)
    (hr : roOK sh ro (frzL (sh.fzs (initFr 0 args) m) m) as = true) (σ : Nat) :
    mget σ (renMem (rho ro.pin as N) (ro.mem y) ++ (dropA as ro.pin (sh.bl.length - ro.pin) ++ frzL (sh.fzs (initFr 0 args) m) m)) = mget σ (frzL (sh.fzs (initFr 0 args) m) m) := by
  unfold roOK at hr
  simp only [Bool.and_eq_true] at hr
  obtain ⟨⟨r1, r2⟩, r3⟩ := hr
  have r1 : ro.pin = sh.bl.length := Nat.eq_of_beq_eq_true r1
  rw [r1, Nat.sub_self, hk x y hF]
  show mget σ (renMem _ (sh.mem x) ++ ([] ++ _)) = _
  rw [List.nil_append]
  unfold Shape.getA Shape.get1 at hg
  generalize frzL (sh.fzs (initFr 0 args) m) m = m1 at *
  split at hg
  · rename_i d1 as1 h1
    split at hg
    · rename_i d2 as2 h2
      obtain ⟨hb, hg⟩ := bif_some hg
      rw [Bool.and_eq_true] at hb
      split at hg
      · rename_i x' hx
        cases hg
        have hds := dyn_hl _ _ _ hx
        have hbl := below_ok _ hb.2
        have hρ : ∀ j τ, alook j as = some (some τ) → rho sh.bl.length as N j = τ := fun j τ e => by
          have hj : j < sh.bl.length := hbl j _ e
          unfold rho
          rw [show Nat.blt j sh.bl.length = true by simpa using hj, e]; rfl
        apply mget_same
        unfold Shape.mem
        rw [hds, slots_rest _ _ _ _ h1 d2]
        have := blks_exact hρ sh.bl 0 as1 d2 as h2 r3 (Sub.refl _) []
        rw [List.append_nil] at this
        exact this
      · cases hg
    · cases hg
  · cases hg
theorem Sound.shpR {P : Program} {f : FuncId} {sh ro : Shape} {F : HL sh.ts → Option (HL ro.ts)} (hk : ∀ x y, F x = some y → ro.mem y = sh.mem x) (h : Sound P f (Spec.shp sh ro F)) : Sound P f (Spec.shpR sh ro F) := by
  obtain ⟨h1, h2, h3⟩ := h
  refine ⟨fun args m N R k kp r hr => ?_, h2, fun {R} args m g k kp r X w vs hr hI hrt ha => ?_⟩
  · simp only [Spec.shpR] at hr ⊢
    obtain ⟨hl, hr⟩ := bif_some hr
    split at hr
    · rename_i x as hg
      cases hF : F x with
      | none => rw [hF] at hr; cases hr
      | some y =>
        obtain ⟨δ, hδ⟩ := frzL_pre (sh.fzs (initFr 0 args) m) m
        cases hc : roOK sh ro (frzL (sh.fzs (initFr 0 args) m) m) as with
        | true => exact .inl ⟨(outAV (ro.fr y)).ren (rho ro.pin as N), δ, N + ro.bl.length, fun k' kp' => by simp only [hl, hg, hF, hc, cond_true, Option.bind_some]; rw [hδ]⟩
        | false => exact .inl ⟨(outAV (ro.fr y)).ren (rho ro.pin as N), renMem (rho ro.pin as N) (ro.mem y) ++ (dropA as ro.pin (sh.bl.length - ro.pin) ++ δ), N + ro.bl.length, fun k' kp' => by simp only [hl, hg, hF, hc, cond_true, cond_false, Option.bind_some]; rw [hδ, List.append_assoc, List.append_assoc]⟩
    · cases hr
  · simp only [Spec.shpR] at hr
    obtain ⟨hl, hr⟩ := bif_some hr
    split at hr
    · rename_i x as hg
      cases hF : F x with
      | none => rw [hF] at hr; cases hr
      | some y =>
        rw [hF, Option.bind_some] at hr
        have h0 : (Spec.shp sh ro F).run args m g.n (fun v m N => some (v, m, N)) (fun _ _ _ => none) = some ((outAV (ro.fr y)).ren (rho ro.pin as g.n), renMem (rho ro.pin as g.n) (ro.mem y) ++ (dropA as ro.pin (sh.bl.length - ro.pin) ++ frzL (sh.fzs (initFr 0 args) m) m), g.n + ro.bl.length) := by
          simp only [Spec.shp, hl, hg, hF, cond_true, Option.bind_some]
        refine (h3 args m g _ _ _ X w vs h0 hI hrt ha).mono ?_
        rintro e w' (⟨v, m', g', cv, q1, q2, q3, q4, q5⟩ | ⟨v, m', g', cv, q1, q2, q3, q4, q5⟩)
        · have q2 := Option.some.inj q2
          have e1 : v = _ := congrArg (fun p => p.1) q2
          have e2 : m' = _ := congrArg (fun p => p.2.1) q2
          have e3 : g'.n = _ := congrArg (fun p => p.2.2) q2
          simp only at e1 e2 e3
          cases hc : roOK sh ro (frzL (sh.fzs (initFr 0 args) m) m) as with
          | true =>
            rw [hc, cond_true] at hr
            have hm : ∀ τ, mget τ (frzL (sh.fzs (initFr 0 args) m) m) = mget τ m' := fun τ => by rw [e2]; exact (shpR_same hk hg hF hc τ).symm
            exact .inl ⟨v, _, g', cv, q1, by rw [e1, e3]; exact hr, q3.eqm hm, by rw [okB.eqm hm]; exact q4, q5.eqm hm⟩
          | false =>
            rw [hc, cond_false] at hr
            exact .inl ⟨v, m', g', cv, q1, by rw [e1, e2, e3]; exact hr, q3, q4, q5⟩
        · cases q2
    · cases hr
end Go.Proofs.Ytkeolcgggondnaa.VX
