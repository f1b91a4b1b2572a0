/- The engine, part 3: parts of values, and the abstract memory. -/
import Derived.Test.YtkeolcgggondnaaVx2
set_option linter.unusedVariables false
set_option linter.unusedSimpArgs false
namespace Go.Proofs.Ytkeolcgggondnaa.VX

theorem conv_some {a b : Ty} {x : a.T} {y : b.T} (h : Ty.conv a b x = some y) : ∃ e : a = b, y = Ty.castTo e x := by
  unfold Ty.conv at h
  split at h
  · rename_i e _; exact ⟨e, by simpa using h.symm⟩
  · cases h
theorem conv_ok {w : World} {ok : Nat → Prop} {a b : Ty} {x : a.T} {y : b.T} (h : Ty.conv a b x = some y) {cs : List Value} (hx : Rd w ok a x cs) : Rd w ok b y cs := by
  obtain ⟨e, rfl⟩ := conv_some h
  cases e
  exact hx
section
variable {g : G} {w : World} {ok : Nat → Prop}
theorem mk2_ok {a b : AV} {c1 c2 : List Value} (h1 : RC g w ok a c1) (h2 : RC g w ok b c2) : RC g w ok (AV.mk2 a b) (c1 ++ c2) := by
  unfold AV.mk2
  split
  · exact ⟨c1, c2, rfl, h1, h2⟩
  · exact ⟨c1, c2, rfl, h1, h2⟩
theorem mk2_size (a b : AV) : (AV.mk2 a b).size = a.size + b.size := by unfold AV.mk2; split <;> rfl
theorem mk1_ok {a : AV} {c : List Value} (h : RC g w ok a c) : RC g w ok (AV.mk1 a) c := by
  unfold AV.mk1
  split <;> exact h
theorem split_ok {v a b : AV} (h : v.split = some (a, b)) {cs : List Value} (hv : RC g w ok v cs) : ∃ c1 c2, cs = c1 ++ c2 ∧ RC g w ok a c1 ∧ RC g w ok b c2 := by
  unfold AV.split at h
  split at h
  · cases h; exact hv
  · cases h; exact hv
  · cases h
theorem comp_ok : ∀ (k : Nat) (l : Bool) (v : AV) (o : Nat) (o' : Nat) (x : AV), v.comp k l o = some (o', x) → ∀ cs, RC g w ok v cs →
    ∃ c0 c1 c2, cs = c0 ++ c1 ++ c2 ∧ o' = o + c0.length ∧ RC g w ok x c1
  | 0, true, v, o, o', x, h, cs, hv => by
    simp only [AV.comp] at h; cases h
    exact ⟨[], cs, [], by simp, by simp, hv⟩
  | 0, false, v, o, o', x, h, cs, hv => by
    simp only [AV.comp] at h
    split at h
    · rename_i a b hs
      cases h
      obtain ⟨c1, c2, e, h1, h2⟩ := split_ok hs hv
      exact ⟨[], c1, c2, by simp [e], by simp, h1⟩
    · cases h
  | k + 1, l, v, o, o', x, h, cs, hv => by
    simp only [AV.comp] at h
    split at h
    · rename_i a b hs
      obtain ⟨c1, c2, e, h1, h2⟩ := split_ok hs hv
      obtain ⟨d0, d1, d2, e', ho, hx⟩ := comp_ok k l b _ _ _ h c2 h2
      exact ⟨c1 ++ d0, d1, d2, by simp [e, e'], by rw [ho, ← RC_len a c1 h1]; simp; omega, hx⟩
    · cases h
theorem put_ok : ∀ (k : Nat) (l : Bool) (v : AV) (o o' : Nat) (x y v' : AV), v.comp k l o = some (o', x) → v.put y k l = some v' → ∀ c0 c1 c2 ds, RC g w ok v (c0 ++ c1 ++ c2) → o' = o + c0.length → RC g w ok x c1 →
    RC g w ok y ds → RC g w ok v' (c0 ++ ds ++ c2)
  | 0, true, v, o, o', x, y, v', h, hp, c0, c1, c2, ds, hv, ho, hx, hy => by
    simp only [AV.comp] at h; cases h
    simp only [AV.put] at hp; cases hp
    have h0 : c0 = [] := by cases c0 with | nil => rfl | cons a l => simp at ho
    have h2 : c2 = [] := by
      have := RC_len _ _ hv; have := RC_len _ _ hx
      simp at *; cases c2 with | nil => rfl | cons a l => simp at *; omega
    subst h0 h2; simpa using hy
  | 0, false, v, o, o', x, y, v', h, hp, c0, c1, c2, ds, hv, ho, hx, hy => by
    simp only [AV.comp] at h
    simp only [AV.put] at hp
    split at h
    · rename_i a b hs
      cases h
      rw [hs] at hp; cases hp
      have h0 : c0 = [] := by cases c0 with | nil => rfl | cons a l => simp at ho
      subst h0
      obtain ⟨d1, d2, e, h1, h2⟩ := split_ok hs hv
      have hl : d1.length = c1.length := by rw [RC_len _ _ h1, RC_len _ _ hx]
      obtain ⟨rfl, rfl⟩ := List.append_inj (by simpa using e.symm) hl
      exact mk2_ok hy h2
    · cases h
  | k + 1, l, v, o, o', x, y, v', h, hp, c0, c1, c2, ds, hv, ho, hx, hy => by
    simp only [AV.comp] at h
    simp only [AV.put] at hp
    split at h
    · rename_i a b hs
      simp only [hs] at hp
      split at hp
      · rename_i b' hb'
        cases hp
        obtain ⟨d1, d2, e, h1, h2⟩ := split_ok hs hv
        have hle : a.size ≤ c0.length := by
          obtain ⟨q0, q1, q2, _, hq, _⟩ := comp_ok (g := g) (w := w) (ok := ok) k l b _ _ _ h d2 h2
          omega
        have hd : d1.length = a.size := RC_len _ _ h1
        obtain ⟨e1, e2⟩ : d1 = c0.take a.size ∧ d2 = c0.drop a.size ++ c1 ++ c2 := by
          have e3 : c0.take a.size ++ (c0.drop a.size ++ c1 ++ c2) = d1 ++ d2 := by rw [← e]; simp [← List.append_assoc]
          obtain ⟨e4, e5⟩ := List.append_inj e3 (by rw [List.length_take, hd]; omega)
          exact ⟨e4.symm, e5.symm⟩
        subst e2
        have := put_ok k l b _ _ x y b' h hb' (c0.drop a.size) c1 c2 ds h2 (by rw [ho, List.length_drop]; omega) hx hy
        have h3 := mk2_ok h1 this
        rw [e1, ← List.append_assoc, ← List.append_assoc, List.take_append_drop] at h3
        exact h3
      · cases hp
    · cases h
theorem sel_ok {v x : AV} {s : Sel} (h : v.sel s = some x) {n : Nat} (hs : s.ok n) {cs : List Value} (hv : RC g w ok v cs) :
    ∃ c0 c1 c2, cs = c0 ++ c1 ++ c2 ∧ c0.length = s.off ∧ RC g w ok x c1 := by
  cases s with
  | fld k l off =>
    simp only [AV.sel] at h
    split at h
    · rename_i o a hc
      obtain ⟨c0, c1, c2, e, ho, hx⟩ := comp_ok k l v 0 o a hc cs hv
      cases hb : Nat.beq o off with
      | false => rw [hb] at h; cases h
      | true =>
        rw [hb] at h; cases h
        have := Nat.eq_of_beq_eq_true hb
        exact ⟨c0, c1, c2, e, by show _ = off; omega, hx⟩
    · cases h
  | inn =>
    simp only [AV.sel] at h
    split at h
    · cases h; exact ⟨[], cs, [], by simp, rfl, hv⟩
    · cases h; exact ⟨[], cs, [], by simp, rfl, hv⟩
    · cases h
  | idx i sz n' =>
    simp only [AV.sel] at h
    split at h
    · rename_i m t xs
      cases hb : Nat.beq n' m && Nat.beq sz t.size with
      | false => rw [hb] at h; cases h
      | true =>
        rw [hb] at h; cases h
        rw [Bool.and_eq_true] at hb
        have e1 := Nat.eq_of_beq_eq_true hb.1
        have e2 := Nat.eq_of_beq_eq_true hb.2
        subst e1 e2
        obtain ⟨hl, hr⟩ := hv
        have hi : i < List.length (α := t.T) xs := by rw [hl]; exact hs
        have h1 := RdL_at (fun x cs h => Rd_len w ok t x cs h) xs cs hr i t.zero hi
        have hlen := RdL_len (fun x cs h => Rd_len w ok t x cs h) xs cs hr
        have hle : (i + 1) * t.size ≤ List.length (α := t.T) xs * t.size := Nat.mul_le_mul_right _ hi
        rw [Nat.add_mul, Nat.one_mul] at hle
        refine ⟨cs.take (i * t.size), (cs.drop (i * t.size)).take t.size, (cs.drop (i * t.size)).drop t.size, ?_, ?_, h1⟩
        · rw [List.append_assoc, List.take_append_drop, List.take_append_drop]
        · show _ = i * t.size
          rw [List.length_take]; omega
    · cases h
  | row i sz => cases h
theorem get_ok {n : Nat} : ∀ (p : Path) (v x : AV), v.get p = some x → pathOK n p → ∀ cs, RC g w ok v cs → ∃ c0 c1 c2, cs = c0 ++ c1 ++ c2 ∧ c0.length = Path.off p ∧ RC g w ok x c1
  | [], v, x, h, _, cs, hv => by cases h; exact ⟨[], cs, [], by simp, rfl, hv⟩
  | s :: p, v, x, h, hp, cs, hv => by
    simp only [AV.get] at h
    split at h
    · rename_i a ha
      obtain ⟨c0, c1, c2, e, ho, hx⟩ := sel_ok ha (hp s (by simp)) hv
      obtain ⟨d0, d1, d2, e', ho', hx'⟩ := get_ok p a x h (fun s hs => hp s (by simp [hs])) c1 hx
      exact ⟨c0 ++ d0, d1, d2 ++ c2, by simp [e, e'], by simp [Path.off, ho, ho'], hx'⟩
    · cases h
end

def Blk.live : Blk → Bool
  | .var _ | .row _ _ | .mp _ _ _ | .lp _ _ _ _ | .fm _ _ => true
  | _ => false
/-- A number that has a block of its own. -/
def Lv (g : G) (m : Mem) (τ : Nat) : Prop := (mget τ m).live = true ∧ (g.loc τ).nil = false
def Own (g : G) (m : Mem) (b : Nat) : Prop := ∃ τ, Lv g m τ ∧ (g.loc τ).blk = b
def okB (X : Nat → Prop) (g : G) (m : Mem) (b : Nat) : Prop := ¬ X b ∧ ¬ Own g m b
/-- An entry of a map. -/
def EOK (w : World) (ok : Nat → Prop) (kt vt : Ty) (i : Nat) (e : MapEntry) (p : kt.T × vt.T) : Prop :=
  e.born = i ∧ (∃ g, RV g w ok (.d kt p.1) e.key ∧ RV g w ok (.d vt p.2) e.val)
/-- How a round was left: 0: as it should, 1: by a return, 2 + i: by an exit. -/
def TagOK (tag : Int) (st : LoopState) (pe : Option Code) : Prop :=
  (tag = 0 ∧ st = .ready ∧ pe = none) ∨ (tag = 1 ∧ st = .done ∧ pe = some .ret) ∨ ∃ i : Nat, tag = 2 + (i : Int) ∧ st = .done ∧ pe = some (.exit i)
/-- What a number of the abstract memory stands for. -/
def BOK (g : G) (w : World) (ok : Nat → Prop) (τ : Nat) : Blk → Prop
  | .var v => (g.loc τ).base = 0 ∧ v.sto = true ∧ (g.loc τ).nil = false ∧ ∃ c e, w.heap[(g.loc τ).blk]? = some (.cells c e (0, 0)) ∧ RC g w ok v c.toList
  | .row t xs => xs.length = (g.loc τ).len ∧ (g.loc τ).len ≤ (g.loc τ).cap ∧ (((g.loc τ).nil = true ∧ (g.loc τ).cap = 0) ∨
      ((g.loc τ).nil = false ∧ ∃ c e cells, w.heap[(g.loc τ).blk]? = some (.cells c e (0, 0)) ∧ RdL (Rd w ok t) xs cells ∧
      (∀ j v, cells[j]? = some v → c[(g.loc τ).base + j]? = some v) ∧ (g.loc τ).base + (g.loc τ).cap * t.size ≤ c.size))
  | .frz t xs => Rd w ok (.slice t) xs [(g.loc τ).sv]
  | .mp kt vt l => (g.loc τ).nil = false ∧ ∃ es, w.heap[(g.loc τ).blk]? = some (.map es es.size) ∧ es.size = l.length ∧ ∀ i e p, es[i]? = some e → l[i]? = some p → EOK w ok kt vt i e p
  | .lp id sl sv tag => (g.loc τ).nil = false ∧ ∃ rt fn tmps D st pe vs, g.rt id = some rt ∧ w.heap[(g.loc τ).blk]? = some (.loop { state := st, pending := pe, fn, tmps, params := rt.ps, assign := rt.as, body := rt.body, defers := D }) ∧
      tmps.size = rt.nt ∧ RL g w ok sv vs ∧ vs = sl.map (fun t => tmps.getD t undef) ∧ TagOK tag st pe
  | .fm ks vs => (g.loc τ).nil = false ∧ ∃ (es : Array MapEntry) (cvs : List Value), w.heap[(g.loc τ).blk]? = some (.map es es.size) ∧ es.size = ks.length ∧ (∀ (i : Nat) (e : MapEntry) (n : Int), es[i]? = some e → ks[i]? = some n → e.born = i ∧ e.key = .int .i64 n) ∧ RL g w ok vs cvs ∧ cvs = es.toList.map (·.val)
  | .gone => True
structure Inv (g : G) (X : Nat → Prop) (m : Mem) (w : World) : Prop where
  ok : ∀ τ, BOK g w (okB X g m) τ (mget τ m)
  inj : ∀ τ τ', Lv g m τ → Lv g m τ' → (g.loc τ).blk = (g.loc τ').blk → τ = τ'
  far : ∀ τ, Lv g m τ → ¬ X (g.loc τ).blk
  xlt : ∀ b, X b → b < w.heap.size
  fresh : ∀ τ, ¬ g.dom τ → mget τ m = .gone
  dlt : ∀ τ, g.dom τ → τ < g.n
structure Ext (g : G) (m : Mem) (w : World) (g' : G) (m' : Mem) (w' : World) : Prop where
  gx : GExt g g'
  nw : ∀ τ, g'.dom τ → g.dom τ ∨ g.n ≤ τ
  size : w.heap.size ≤ w'.heap.size
  keep : ∀ b, b < w.heap.size → ¬ Own g m b → w'.heap[b]? = w.heap[b]?
  own : ∀ b, Own g' m' b → Own g m b ∨ w.heap.size ≤ b
  os : w'.os = w.os
  tape : w'.tape = w.tape
  output : w'.output = w.output
/-- The same, where the numbers may be other ones, but for the first ones. -/
structure Ext0 (p : Nat) (g : G) (m : Mem) (w : World) (g' : G) (m' : Mem) (w' : World) : Prop where
  rt : g'.rt = g.rt
  pin : ∀ τ, τ < p → g.dom τ → g'.dom τ ∧ g'.loc τ = g.loc τ
  size : w.heap.size ≤ w'.heap.size
  keep : ∀ b, b < w.heap.size → ¬ Own g m b → w'.heap[b]? = w.heap[b]?
  own : ∀ b, Own g' m' b → Own g m b ∨ w.heap.size ≤ b
  os : w'.os = w.os
  tape : w'.tape = w.tape
  output : w'.output = w.output
theorem Ext.to0 {p : Nat} {g g' : G} {m m' : Mem} {w w' : World} (h : Ext g m w g' m' w') : Ext0 p g m w g' m' w' := ⟨h.gx.1.2, fun τ _ ht => h.gx.2 τ ht, h.size, h.keep, h.own, h.os, h.tape, h.output⟩
theorem Ext0.refl (p : Nat) (g : G) (m : Mem) (w : World) : Ext0 p g m w g m w := ⟨rfl, fun _ _ h => ⟨h, rfl⟩, Nat.le_refl _, fun _ _ _ => rfl, fun _ h => .inl h, rfl, rfl, rfl⟩
theorem Ext0.trans {p : Nat} {g1 g2 g3 : G} {m1 m2 m3 : Mem} {w1 w2 w3 : World} (h : Ext0 p g1 m1 w1 g2 m2 w2) (k : Ext0 p g2 m2 w2 g3 m3 w3) : Ext0 p g1 m1 w1 g3 m3 w3 := by
  refine ⟨k.rt.trans h.rt, fun τ hp ht => ⟨(k.pin τ hp (h.pin τ hp ht).1).1, (k.pin τ hp (h.pin τ hp ht).1).2.trans (h.pin τ hp ht).2⟩, Nat.le_trans h.size k.size, fun b hb ho => ?_, fun b hb => ?_, k.os.trans h.os, k.tape.trans h.tape, k.output.trans h.output⟩
  · rw [k.keep b (Nat.lt_of_lt_of_le hb h.size) (fun h2 => (h.own b h2).elim ho (by omega)), h.keep b hb ho]
  · rcases k.own b hb with h2 | h2
    · exact h.own b h2
    · have := h.size; exact .inr (by omega)
theorem Ext.refl (g : G) (m : Mem) (w : World) : Ext g m w g m w := ⟨GExt.refl g, fun _ h => .inl h, Nat.le_refl _, fun _ _ _ => rfl, fun _ h => .inl h, rfl, rfl, rfl⟩
theorem Ext.trans {g1 g2 g3 : G} {m1 m2 m3 : Mem} {w1 w2 w3 : World} (h : Ext g1 m1 w1 g2 m2 w2) (k : Ext g2 m2 w2 g3 m3 w3) : Ext g1 m1 w1 g3 m3 w3 := by
  refine ⟨h.gx.trans k.gx, fun τ ht => (k.nw τ ht).elim (h.nw τ) (fun e => .inr (Nat.le_trans h.gx.1.1 e)), Nat.le_trans h.size k.size, fun b hb ho => ?_, fun b hb => ?_, k.os.trans h.os, k.tape.trans h.tape, k.output.trans h.output⟩
  · rw [k.keep b (Nat.lt_of_lt_of_le hb h.size) (fun h2 => (h.own b h2).elim ho (by omega)), h.keep b hb ho]
  · rcases k.own b hb with h2 | h2
    · exact h.own b h2
    · have := h.size; exact .inr (by omega)
theorem lt_of_heap {w : World} {b : Nat} {o : Obj} (h : w.heap[b]? = some o) : b < w.heap.size := by
  rcases Nat.lt_or_ge b w.heap.size with h1 | h1
  · exact h1
  · rw [Array.getElem?_eq_none h1] at h; cases h
theorem Ext.holds {g g' : G} {X : Nat → Prop} {m m' : Mem} {w w' : World} (h : Ext g m w g' m' w') : Holds w (okB X g m) w' (okB X g' m') := by
  rintro b ⟨h1, h2⟩ ⟨_, _, _, h3⟩
  have hlt := lt_of_heap h3
  exact ⟨⟨h1, fun h4 => (h.own b h4).elim h2 (by omega)⟩, h.keep b hlt h2⟩
theorem EOK_mono {w w' : World} {ok ok' : Nat → Prop} (h : Holds w ok w' ok') {kt vt : Ty} {i : Nat} {e : MapEntry} {p : kt.T × vt.T} (he : EOK w ok kt vt i e p) : EOK w' ok' kt vt i e p := by
  obtain ⟨h1, g, h2, h3⟩ := he
  exact ⟨h1, g, RV_mono (GExt.refl g) h h2, RV_mono (GExt.refl g) h h3⟩
theorem BOK_mono {g g' : G} {w w' : World} {ok ok' : Nat → Prop} (hg : GExt g g') (h : Holds w ok w' ok') {τ : Nat} (hτ : g.dom τ) {B : Blk} (hb : B.live = true → (g.loc τ).nil = false → w'.heap[(g.loc τ).blk]? = w.heap[(g.loc τ).blk]?)
    (hB : BOK g w ok τ B) : BOK g' w' ok' τ B := by
  have hl := (hg.2 τ hτ).2
  cases B with
  | var v =>
    obtain ⟨h1, h2, h5, c, e, h3, h4⟩ := hB
    refine ⟨by rw [hl]; exact h1, h2, by rw [hl]; exact h5, c, e, by rw [hl, hb rfl h5]; exact h3, RC_mono hg h v _ h4⟩
  | row t xs =>
    obtain ⟨h1, h2, h0⟩ := hB
    refine ⟨by rw [hl]; exact h1, by rw [hl]; exact h2, ?_⟩
    rcases h0 with h0 | ⟨h7, c, e, cells, h3, h4, h5, h6⟩
    · left; rw [hl]; exact h0
    · exact .inr ⟨by rw [hl]; exact h7, c, e, cells, by rw [hl, hb rfl h7]; exact h3, RdL_mono (fun x cs => Rd_mono h t x cs) _ _ h4, by rw [hl]; exact h5, by rw [hl]; exact h6⟩
  | frz t xs => show Rd _ _ _ _ _; rw [hl]; exact Rd_mono h _ _ _ hB
  | mp kt vt l =>
    obtain ⟨h4, es, h1, h2, h3⟩ := hB
    exact ⟨by rw [hl]; exact h4, es, by rw [hl, hb rfl h4]; exact h1, h2, fun i e p he hp => EOK_mono h (h3 i e p he hp)⟩
  | lp id sl sv tag =>
    obtain ⟨h4, rt, fn, tmps, D, st, pe, vs, h1, h2, h3, h5, h6, h7⟩ := hB
    exact ⟨by rw [hl]; exact h4, rt, fn, tmps, D, st, pe, vs, by rw [hg.1.2]; exact h1, by rw [hl, hb rfl h4]; exact h2, h3, RL_mono hg h sv vs h5, h6, h7⟩
  | fm ks vs =>
    obtain ⟨h4, es, cvs, h1, h2, h3, h5, h6⟩ := hB
    exact ⟨by rw [hl]; exact h4, es, cvs, by rw [hl, hb rfl h4]; exact h1, h2, h3, RL_mono hg h vs cvs h5, h6⟩
  | gone => trivial
section
variable {g : G} {w : World} {ok : Nat → Prop} {m : Mem}
theorem data_pr {u v : AV} {a b : Ty} {x : a.T × b.T} (h : AV.data m (.pr u v) (.pair a b) = some x) : ∃ y z, AV.data m u a = some y ∧ AV.data m v b = some z ∧ x = (y, z) := by
  have h' : (match AV.data m u a, AV.data m v b with | some x, some y => some (x, y) | _, _ => none) = some x := h
  split at h'
  · rename_i y z h1 h2
    exact ⟨y, z, h1, h2, (Option.some.inj h').symm⟩
  · cases h'
theorem data_sl {τ : Nat} {t : Ty} {x : List t.T} (h : AV.data m (.sl τ) (.slice t) = some x) : ∃ t' xs, mget τ m = .frz t' xs ∧ Ty.conv (.slice t') (.slice t) xs = some x := by
  have h' : (match mget τ m with | .frz t' xs => Ty.conv (.slice t') (.slice t) xs | _ => none) = some x := h
  cases hm : mget τ m with
  | frz t' xs => rw [hm] at h'; exact ⟨t', xs, rfl, h'⟩
  | _ => rw [hm] at h'; cases h'
theorem data_vw {τ lo n sz : Nat} {t : Ty} {x : List t.T} (h : AV.data m (.vw τ lo n sz) (.slice t) = some x) : ∃ t' xs, mget τ m = .frz t' xs ∧ sz = t'.size ∧ Ty.conv (.slice t') (.slice t) (cut xs lo n) = some x := by
  have h' : (match mget τ m with | .frz t' xs => (bif Nat.beq sz t'.size then Ty.conv (.slice t') (.slice t) (cut xs lo n) else none) | _ => none) = some x := h
  cases hm : mget τ m with
  | frz t' xs =>
    rw [hm] at h'
    simp only at h'
    cases hb : Nat.beq sz t'.size with
    | false => rw [hb] at h'; cases h'
    | true => rw [hb] at h'; exact ⟨t', xs, rfl, Nat.eq_of_beq_eq_true hb, h'⟩
  | _ => rw [hm] at h'; cases h'
theorem cut_len {α : Type} {l : List α} {lo n : Nat} (h : lo + n ≤ l.length) : (cut l lo n).length = n := by
  unfold cut; rw [List.length_take, List.length_drop]; omega
theorem frz_cut {τ lo n : Nat} {t : Ty} {xs : List t.T} {v : Value} (hB : BOK g w ok τ (.frz t xs)) (hv : (g.loc τ).vok lo n t.size v) : Rd w ok (.slice t) (cut xs lo n) [v] := by
  obtain ⟨ad, cap, e1, e2, e3⟩ := hB
  have e1 := (List.cons.inj e1).1
  unfold Loc.sv at e1
  simp only [Value.slice.injEq] at e1
  obtain ⟨q1, q2, q3⟩ := e1
  obtain ⟨⟨v1, _⟩, ad', rfl, v3⟩ := hv
  have hl : (cut xs lo n).length = n := cut_len (by rw [← q2]; exact v1)
  refine ⟨ad', _, by rw [hl], by rw [hl]; omega, ?_⟩
  by_cases hn : n = 0
  · left; exact List.eq_nil_of_length_eq_zero (by rw [hl]; exact hn)
  · right
    rcases e3 with e3 | ⟨a, cells, rfl, k1, k2⟩
    · rw [e3] at q2; simp at q2; omega
    · rcases v3 with ⟨n1, _⟩ | ⟨n1, o, rfl, n2, _⟩
      · rw [n1] at q1; cases q1
      · rw [n1] at q1
        have hlo : lo < (g.loc τ).cap := by omega
        have q1 := Option.some.inj q1
        subst q1
        have hlen := RdL_len (fun x cs h => Rd_len w ok t x cs h) xs cells k1
        refine ⟨_, (cells.drop (lo * t.size)).take (n * t.size), rfl, (RdL_split (fun x cs h => Rd_len w ok t x cs h) _ _ (RdL_split (fun x cs h => Rd_len w ok t x cs h) xs cells k1 lo).2 n).1, ?_⟩
        obtain ⟨s1, s2, c, e, fr, s3, s4⟩ := k2
        refine ⟨rfl, s2, c, e, fr, s3, fun j u hu => ?_⟩
        rw [List.getElem?_take] at hu
        split at hu
        · rw [List.getElem?_drop] at hu
          rw [n2 hlo, Nat.add_assoc]
          exact s4 _ _ hu
        · cases hu
theorem data_ok (hf : ∀ τ, BOK g w ok τ (mget τ m)) : ∀ (v : AV) (t : Ty) (x : t.T), v.data m t = some x → ∀ cs, RC g w ok v cs → Rd w ok t x cs
  | .d t' y, t, x, h, cs, hv => by
    cases t <;> exact conv_ok h hv
  | .pr u v, t, x, h, cs, hv => by
    cases t with
    | pair a b =>
      obtain ⟨y, z, h1, h2, rfl⟩ := data_pr h
      obtain ⟨c1, c2, e, k1, k2⟩ := hv
      exact ⟨c1, c2, e, data_ok hf u a y h1 c1 k1, data_ok hf v b z h2 c2 k2⟩
    | _ => cases h
  | .one u, t, x, h, cs, hv => by
    cases t with
    | one a => exact data_ok hf u a x h cs hv
    | _ => cases h
  | .nl, t, x, h, cs, hv => by
    cases t with
    | slice t => cases h; cases hv; exact ⟨none, 0, rfl, Nat.le_refl _, .inl rfl⟩
    | _ => cases h
  | .sl τ, t, x, h, cs, hv => by
    cases t with
    | slice t =>
      obtain ⟨t', xs, hm, h1⟩ := data_sl h
      obtain ⟨hn, hc⟩ := hv
      have hB := hf τ
      rw [hm] at hB
      subst hc
      exact conv_ok h1 hB
    | _ => cases h
  | .vw τ lo n sz, t, x, h, cs, hv => by
    cases t with
    | slice t =>
      obtain ⟨t', xs, hm, hsz, h1⟩ := data_vw h
      obtain ⟨hn, v, hc, hv⟩ := hv
      have hB := hf τ
      rw [hm] at hB
      subst hc hsz
      exact conv_ok h1 (frz_cut hB hv)
    | _ => cases h
  | .ptr _ _, t, x, h, cs, hv => by cases t <;> cases h
  | .nilp, t, x, h, cs, hv => by cases t <;> cases h
  | .pv _ _, t, x, h, cs, hv => by cases t <;> cases h
  | .mp _, t, x, h, cs, hv => by cases t <;> cases h
  | .nilm, t, x, h, cs, hv => by cases t <;> cases h
  | .fn _ _ _, t, x, h, cs, hv => by cases t <;> cases h
  | .nilf, t, x, h, cs, hv => by cases t <;> cases h
  | .ifc _ _, t, x, h, cs, hv => by cases t <;> cases h
  | .nili, t, x, h, cs, hv => by cases t <;> cases h
  | .tu _, t, x, h, cs, hv => by cases t <;> cases h
  | .nil, t, x, h, cs, hv => by cases t <;> cases h
  | .cons _ _, t, x, h, cs, hv => by cases t <;> cases h
  | .dead, t, x, h, cs, hv => by cases t <;> cases h
theorem set_ok (hf : ∀ τ, BOK g w ok τ (mget τ m)) {n : Nat} : ∀ (p : Path) (v x v' : AV), v.set m x p = some v' → pathOK n p → ∀ cs ds, RC g w ok v cs → RC g w ok x ds →
    ∃ c0 c1 c2, cs = c0 ++ c1 ++ c2 ∧ c0.length = Path.off p ∧ c1.length = ds.length ∧ RC g w ok v' (c0 ++ ds ++ c2)
  | [], v, x, v', h, _, cs, ds, hv, hx => by
    simp only [AV.set] at h
    cases hb : Nat.beq x.size v.size with
    | false => rw [hb] at h; cases h
    | true =>
      rw [hb] at h; cases h
      exact ⟨[], cs, [], by simp, rfl, by rw [RC_len _ _ hv, RC_len _ _ hx, Nat.eq_of_beq_eq_true hb], by simpa using hx⟩
  | .fld k l off :: p, v, x, v', h, hp, cs, ds, hv, hx => by
    simp only [AV.set] at h
    split at h
    · rename_i a ha
      split at h
      · rename_i a' ha'
        simp only [AV.sel] at ha
        split at ha
        · rename_i o b hc
          cases hb : Nat.beq o off with
          | false => rw [hb] at ha; cases ha
          | true =>
            rw [hb] at ha; cases ha
            have ho' := Nat.eq_of_beq_eq_true hb
            subst ho'
            obtain ⟨c0, c1, c2, e, ho, ha1⟩ := comp_ok k l v 0 _ _ hc cs hv
            obtain ⟨d0, d1, d2, e1, hd0, hd1, ha2⟩ := set_ok hf p _ x a' ha' (fun s hs => hp s (by simp [hs])) c1 ds ha1 hx
            refine ⟨c0 ++ d0, d1, d2 ++ c2, by simp [e, e1], by simp only [Path.off, Sel.off, List.length_append]; omega, hd1, ?_⟩
            have := put_ok k l v 0 _ _ a' v' hc h c0 c1 c2 _ (by rw [← e]; exact hv) ho ha1 ha2
            simpa using this
        · cases ha
      · cases h
    · cases h
  | .inn :: p, v, x, v', h, hp, cs, ds, hv, hx => by
    simp only [AV.set] at h
    split at h
    · rename_i a ha
      split at h
      · rename_i a' ha'
        cases h
        have ha1 : RC g w ok a cs := by
          simp only [AV.sel] at ha
          split at ha
          · cases ha; exact hv
          · cases ha; exact hv
          · cases ha
        obtain ⟨d0, d1, d2, e1, hd0, hd1, ha2⟩ := set_ok hf p _ x a' ha' (fun s hs => hp s (by simp [hs])) cs ds ha1 hx
        exact ⟨d0, d1, d2, e1, by simp only [Path.off, Sel.off]; omega, hd1, mk1_ok ha2⟩
      · cases h
    · cases h
  | .idx i sz k :: p, v, x, v', h, hp, cs, ds, hv, hx => by
    simp only [AV.set] at h
    split at h
    · rename_i q t xs
      cases hb : Nat.beq k q && Nat.beq sz t.size with
      | false => rw [hb] at h; cases h
      | true =>
        rw [hb] at h
        rw [Bool.and_eq_true] at hb
        have e1 := Nat.eq_of_beq_eq_true hb.1
        have e2 := Nat.eq_of_beq_eq_true hb.2
        subst e1 e2
        simp only [cond_true] at h
        split at h
        · rename_i a' ha'
          split at h
          · rename_i y hy
            cases h
            obtain ⟨hl, hr⟩ := hv
            have hi : i < List.length (α := t.T) xs := by rw [hl]; exact hp (.idx i t.size k) (by simp)
            have hR := fun x cs h => Rd_len w ok t x cs h
            have h1 := RdL_at hR xs cs hr i t.zero hi
            have hlen := RdL_len hR xs cs hr
            have hle : (i + 1) * t.size ≤ List.length (α := t.T) xs * t.size := Nat.mul_le_mul_right _ hi
            rw [Nat.add_mul, Nat.one_mul] at hle
            obtain ⟨d0, d1, d2, e3, hd0, hd1, ha2⟩ := set_ok hf p _ x a' ha' (fun s hs => hp s (by simp [hs])) _ ds h1 hx
            have hy2 := data_ok hf a' t y hy _ ha2
            have hset := RdL_set hR xs cs hr i y _ hi hy2
            refine ⟨cs.take (i * t.size) ++ d0, d1, d2 ++ cs.drop (i * t.size + t.size), ?_, ?_, hd1, ?_, ?_⟩
            · have : cs = cs.take (i * t.size) ++ ((cs.drop (i * t.size)).take t.size ++ (cs.drop (i * t.size)).drop t.size) := by
                rw [List.take_append_drop, List.take_append_drop]
              rw [e3, List.drop_drop] at this
              simpa using this
            · simp only [Path.off, Sel.off, List.length_append, List.length_take]; omega
            · exact (List.length_set (as := (xs : List t.T)) (i := i) (a := y)).trans hl
            · simpa using hset
          · cases h
        · cases h
    · cases h
  | .row i sz :: p, v, x, v', h, hp, cs, ds, hv, hx => by cases h
end
end Go.Proofs.Ytkeolcgggondnaa.VX
