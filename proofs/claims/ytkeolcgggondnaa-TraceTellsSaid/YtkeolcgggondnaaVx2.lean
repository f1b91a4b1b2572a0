/- The engine, part 2: what abstract values, memory and states stand for in the model's world, and what stays so. -/
import Derived.Test.YtkeolcgggondnaaVx1
import Derived.Below
import Derived.Laws.AppendOwn
set_option linter.unusedVariables false
set_option linter.unusedSimpArgs false
namespace Go.Proofs.Ytkeolcgggondnaa.VX

/-- Cells that stand one behind the other from an address on. -/
def Seg (w : World) (ok : Nat → Prop) (ad : Addr) (cs : List Value) : Prop :=
  ad.spot = none ∧ ok ad.block ∧ ∃ c e fr, w.heap[ad.block]? = some (.cells c e fr) ∧ ∀ j v, cs[j]? = some v → c[ad.off + j]? = some v
def RdL {α : Type} (R : α → List Value → Prop) : List α → List Value → Prop
  | [], cs => cs = []
  | x :: xs, cs => ∃ c1 c2, cs = c1 ++ c2 ∧ R x c1 ∧ RdL R xs c2
/-- Cells that read as plain data. -/
def Rd (w : World) (ok : Nat → Prop) : (t : Ty) → t.T → List Value → Prop
  | .int k, n, cs => cs = [.int k n]
  | .bool, b, cs => cs = [.bool b]
  | .str, s, cs => ∃ ba : ByteArray, cs = [.string ba] ∧ ba.data.toList = s
  | .pair a b, x, cs => ∃ c1 c2, cs = c1 ++ c2 ∧ Rd w ok a x.1 c1 ∧ Rd w ok b x.2 c2
  | .one a, x, cs => Rd w ok a x cs
  | .slice t, l, cs => ∃ (a : Option Addr) (cap : Nat), cs = [.slice a (l : List t.T).length cap] ∧ (l : List t.T).length ≤ cap ∧
      ((l : List t.T) = [] ∨ ∃ ad cells, a = some ad ∧ RdL (Rd w ok t) l cells ∧ Seg w ok ad cells)
  | .arr n t, l, cs => (l : List t.T).length = n ∧ RdL (Rd w ok t) l cs

theorem RdL_len {α : Type} {R : α → List Value → Prop} {n : Nat} (h : ∀ x cs, R x cs → cs.length = n) : ∀ xs cs, RdL R xs cs → cs.length = xs.length * n
  | [], cs, e => by cases e; simp
  | x :: xs, cs, ⟨c1, c2, e, h1, h2⟩ => by
    subst e
    rw [List.length_append, h x c1 h1, RdL_len h xs c2 h2, List.length_cons, Nat.add_mul]; omega
theorem Rd_len (w : World) (ok : Nat → Prop) : ∀ (t : Ty) (x : t.T) (cs : List Value), Rd w ok t x cs → cs.length = t.size
  | .int k, n, cs, h => by cases h; rfl
  | .bool, b, cs, h => by cases h; rfl
  | .str, s, cs, ⟨ba, h, _⟩ => by cases h; rfl
  | .pair a b, x, cs, ⟨c1, c2, e, h1, h2⟩ => by
    subst e; rw [List.length_append, Rd_len w ok a _ _ h1, Rd_len w ok b _ _ h2]; rfl
  | .one a, x, cs, h => Rd_len w ok a x cs h
  | .slice t, l, cs, ⟨a, cap, e, _⟩ => by subst e; rfl
  | .arr n t, l, cs, ⟨hl, h⟩ => by
    rw [RdL_len (fun x cs h => Rd_len w ok t x cs h) l cs h]
    show List.length (α := t.T) l * _ = _
    rw [hl]; rfl
theorem RdL_mono {α : Type} {R S : α → List Value → Prop} (h : ∀ x cs, R x cs → S x cs) : ∀ xs cs, RdL R xs cs → RdL S xs cs
  | [], cs, e => e
  | x :: xs, cs, ⟨c1, c2, e, h1, h2⟩ => ⟨c1, c2, e, h x c1 h1, RdL_mono h xs c2 h2⟩
theorem RdL_at {α : Type} {R : α → List Value → Prop} {n : Nat} (h : ∀ x cs, R x cs → cs.length = n) : ∀ (xs : List α) (cs : List Value), RdL R xs cs → ∀ (i : Nat) (z : α), i < xs.length →
    R (getAt z xs i) ((cs.drop (i * n)).take n)
  | [], cs, _, i, z, hi => absurd hi (Nat.not_lt_zero _)
  | x :: xs, cs, ⟨c1, c2, e, h1, h2⟩, 0, z, hi => by
    subst e
    simp only [Nat.zero_mul, List.drop_zero]
    rw [List.take_append_of_le_length (by rw [h x c1 h1]; omega), List.take_of_length_le (by rw [h x c1 h1]; omega)]
    exact h1
  | x :: xs, cs, ⟨c1, c2, e, h1, h2⟩, i + 1, z, hi => by
    subst e
    have hl := h x c1 h1
    rw [List.drop_append, List.drop_of_length_le (by rw [hl, Nat.add_mul]; omega), List.nil_append, hl, show (i + 1) * n - n = i * n by rw [Nat.add_mul]; omega]
    exact RdL_at h xs c2 h2 i z (by simpa using hi)
theorem RdL_split {α : Type} {R : α → List Value → Prop} {n : Nat} (h : ∀ x cs, R x cs → cs.length = n) : ∀ (xs : List α) (cs : List Value), RdL R xs cs → ∀ (i : Nat),
    RdL R (xs.take i) (cs.take (i * n)) ∧ RdL R (xs.drop i) (cs.drop (i * n))
  | xs, cs, hx, 0 => by simp only [Nat.zero_mul, List.take_zero, List.drop_zero]; exact ⟨rfl, hx⟩
  | [], cs, e, i + 1 => by cases e; simp [RdL]
  | x :: xs, cs, ⟨c1, c2, e, h1, h2⟩, i + 1 => by
    subst e
    have hl := h x c1 h1
    have hn : (i + 1) * n = n + i * n := by rw [Nat.add_mul]; omega
    obtain ⟨k1, k2⟩ := RdL_split h xs c2 h2 i
    refine ⟨⟨c1, c2.take (i * n), ?_, h1, k1⟩, ?_⟩
    · rw [List.take_append, hl, hn, List.take_of_length_le (by omega), show n + i * n - n = i * n by omega]
    · have e : (c1 ++ c2).drop ((i + 1) * n) = c2.drop (i * n) := by
        rw [List.drop_append, hl, hn, List.drop_of_length_le (by omega), show n + i * n - n = i * n by omega, List.nil_append]
      show RdL R (xs.drop i) _
      rw [e]; exact k2
theorem RdL_append {α : Type} {R : α → List Value → Prop} : ∀ (xs ys : List α) (cs ds : List Value), RdL R xs cs → RdL R ys ds → RdL R (xs ++ ys) (cs ++ ds)
  | [], ys, cs, ds, e, h => by cases e; exact h
  | x :: xs, ys, cs, ds, ⟨c1, c2, e, h1, h2⟩, h => by
    subst e
    exact ⟨c1, c2 ++ ds, by simp, h1, RdL_append xs ys c2 ds h2 h⟩
theorem RdL_set {α : Type} {R : α → List Value → Prop} {n : Nat} (h : ∀ x cs, R x cs → cs.length = n) : ∀ (xs : List α) (cs : List Value), RdL R xs cs → ∀ (i : Nat) (y : α) (ds : List Value), i < xs.length → R y ds →
    RdL R (xs.set i y) (cs.take (i * n) ++ ds ++ cs.drop (i * n + n))
  | [], cs, _, i, y, ds, hi, _ => absurd hi (Nat.not_lt_zero _)
  | x :: xs, cs, ⟨c1, c2, e, h1, h2⟩, 0, y, ds, hi, hy => by
    subst e
    refine ⟨ds, c2, ?_, hy, h2⟩
    simp only [Nat.zero_mul, List.take_zero, List.nil_append, Nat.zero_add]
    rw [List.drop_append, h x c1 h1, List.drop_of_length_le (by rw [h x c1 h1]; omega)]; simp
  | x :: xs, cs, ⟨c1, c2, e, h1, h2⟩, i + 1, y, ds, hi, hy => by
    subst e
    have hl := h x c1 h1
    have hn : (i + 1) * n = n + i * n := by rw [Nat.add_mul]; omega
    refine ⟨c1, c2.take (i * n) ++ ds ++ c2.drop (i * n + n), ?_, h1, RdL_set h xs c2 h2 i y ds (by simpa using hi) hy⟩
    rw [List.take_append, List.drop_append, hl, hn, List.take_of_length_le (by omega), List.drop_of_length_le (by omega), show n + i * n - n = i * n by omega, show n + i * n + n - n = i * n + n by omega]
    simp
/-- What holds of a world's blocks, of which something may be read, holds of another one's. -/
def Holds (w : World) (ok : Nat → Prop) (w' : World) (ok' : Nat → Prop) : Prop := ∀ b, ok b → (∃ c e fr, w.heap[b]? = some (.cells c e fr)) → ok' b ∧ w'.heap[b]? = w.heap[b]?
theorem Seg_mono {w w' : World} {ok ok' : Nat → Prop} (h : Holds w ok w' ok') {ad : Addr} {cs : List Value} (hs : Seg w ok ad cs) : Seg w' ok' ad cs := by
  obtain ⟨h1, h2, c, e, fr, h3, h4⟩ := hs
  obtain ⟨h5, h6⟩ := h _ h2 ⟨_, _, _, h3⟩
  exact ⟨h1, h5, c, e, fr, h6.trans h3, h4⟩
theorem Rd_mono {w w' : World} {ok ok' : Nat → Prop} (h : Holds w ok w' ok') : ∀ (t : Ty) (x : t.T) (cs : List Value), Rd w ok t x cs → Rd w' ok' t x cs
  | .int k, n, cs, h1 => h1
  | .bool, b, cs, h1 => h1
  | .str, s, cs, h1 => h1
  | .pair a b, x, cs, ⟨c1, c2, e, h1, h2⟩ => ⟨c1, c2, e, Rd_mono h a _ _ h1, Rd_mono h b _ _ h2⟩
  | .one a, x, cs, h1 => Rd_mono h a x cs h1
  | .slice t, l, cs, ⟨a, cap, e, hl, h1⟩ => ⟨a, cap, e, hl, h1.imp id fun ⟨ad, cells, e, h2, h3⟩ => ⟨ad, cells, e, RdL_mono (fun x cs => Rd_mono h t x cs) _ _ h2, Seg_mono h h3⟩⟩
  | .arr n t, l, cs, ⟨hl, h1⟩ => ⟨hl, RdL_mono (fun x cs => Rd_mono h t x cs) _ _ h1⟩
def oneB : Value → Bool
  | .agg _ | .tuple _ => false
  | _ => true
theorem RdL_one {α : Type} {R : α → List Value → Prop} (h : ∀ x cs, R x cs → ∀ v ∈ cs, v.oneCell' = true) : ∀ xs cs, RdL R xs cs → ∀ v ∈ cs, v.oneCell' = true
  | [], cs, e => by cases e; simp
  | x :: xs, cs, ⟨c1, c2, e, h1, h2⟩ => by
    subst e
    intro v hv
    rcases List.mem_append.1 hv with hv | hv
    · exact h x c1 h1 v hv
    · exact RdL_one h xs c2 h2 v hv
theorem Rd_one (w : World) (ok : Nat → Prop) : ∀ (t : Ty) (x : t.T) (cs : List Value), Rd w ok t x cs → ∀ v ∈ cs, v.oneCell' = true
  | .int k, n, cs, h => by cases h; simp [Value.oneCell']
  | .bool, b, cs, h => by cases h; simp [Value.oneCell']
  | .str, s, cs, ⟨ba, h, _⟩ => by cases h; simp [Value.oneCell']
  | .pair a b, x, cs, ⟨c1, c2, e, h1, h2⟩ => by
    subst e
    intro v hv
    rcases List.mem_append.1 hv with hv | hv
    · exact Rd_one w ok a _ _ h1 v hv
    · exact Rd_one w ok b _ _ h2 v hv
  | .one a, x, cs, h => Rd_one w ok a x cs h
  | .slice t, l, cs, ⟨a, cap, e, _⟩ => by subst e; simp [Value.oneCell']
  | .arr n t, l, cs, ⟨hl, h⟩ => RdL_one (fun x cs h => Rd_one w ok t x cs h) l cs h

/-- Where a number of the abstract memory stands: its block, the first cell, how many elements, and for how many there is room. -/
structure Loc where
  blk : Nat
  base : Nat
  len : Nat
  cap : Nat
  nil : Bool := false
  deriving Inhabited
/-- The slice that stands there. -/
def Loc.sv (L : Loc) : Value := .slice (bif L.nil then none else some ⟨L.blk, L.base, none⟩) L.len L.cap
/-- A slice of what stands there: from an element on, so many. -/
def Loc.vok (L : Loc) (lo n sz : Nat) (v : Value) : Prop := (lo + n ≤ L.len ∧ L.len ≤ L.cap) ∧ ∃ ad, v = .slice ad n (L.cap - lo) ∧
  ((L.nil = true ∧ ad = none) ∨ (L.nil = false ∧ ∃ o, ad = some ⟨L.blk, o, none⟩ ∧ (lo < L.cap → o = L.base + lo * sz) ∧ o ≤ L.base + L.cap * sz))
/-- A range over a function: what a round runs. -/
structure RT where
  ps : Array Tmp
  as : Code
  body : Code
  nt : Nat
structure G where
  loc : Nat → Loc
  n : Nat
  dom : Nat → Prop
  rt : Nat → Option RT
def Sel.ok (len : Nat) : Sel → Prop
  | .idx i _ n => i < n
  | .row i _ => i < len
  | _ => True
def pathOK (len : Nat) (p : Path) : Prop := ∀ s ∈ p, s.ok len
def Sel.off : Sel → Nat
  | .fld _ _ o => o
  | .inn => 0
  | .idx i sz _ => i * sz
  | .row i sz => i * sz
def Path.off : Path → Nat
  | [] => 0
  | s :: p => s.off + Path.off p
mutual
/-- Cells that read as an abstract value. -/
def RC (g : G) (w : World) (ok : Nat → Prop) : AV → List Value → Prop
  | .d t x, cs => Rd w ok t x cs
  | .pr a b, cs => ∃ c1 c2, cs = c1 ++ c2 ∧ RC g w ok a c1 ∧ RC g w ok b c2
  | .one a, cs => RC g w ok a cs
  | .nl, cs => cs = [.slice none 0 0]
  | .sl τ, cs => g.dom τ ∧ cs = [(g.loc τ).sv]
  | .vw τ lo n sz, cs => g.dom τ ∧ ∃ v, cs = [v] ∧ (g.loc τ).vok lo n sz v
  | .ptr τ p, cs => g.dom τ ∧ pathOK (g.loc τ).len p ∧ cs = [.pointer (some ⟨(g.loc τ).blk, (g.loc τ).base + Path.off p, none⟩)]
  | .nilp, cs => cs = [.pointer none]
  | .pv t x, cs => ∃ ad cells, cs = [.pointer (some ad)] ∧ Rd w ok t x cells ∧ Seg w ok ad cells
  | .mp τ, cs => g.dom τ ∧ cs = [.map (some (g.loc τ).blk)]
  | .nilm, cs => cs = [.map none]
  | .fn f a b, cs => ∃ fs ks, RL g w ok a fs ∧ RL g w ok b ks ∧ cs = [.func (.func f) fs.toArray ks.toArray]
  | .nilf, cs => cs = [.nilFunc]
  | .yl τ, cs => g.dom τ ∧ cs = [.func (.yield (g.loc τ).blk) #[] #[]]
  | .ifc t v, cs => ∃ cv, cs = [.iface t cv] ∧ (v.isAgg = true → ∃ ds, cv = .agg (List.toArray ds) ∧ RC g w ok v ds) ∧ (v.isAgg = false → RC g w ok v [cv])
  | .nili, cs => cs = [.nilIface]
  | .tu vs, cs => ∃ l, RL g w ok vs l ∧ cs = [.tuple l.toArray]
  | .nil, _ => False
  | .cons _ _, _ => False
  | .dead, cs => ∃ v, cs = [v]
def RL (g : G) (w : World) (ok : Nat → Prop) : AV → List Value → Prop
  | .nil, l => l = []
  | .cons a b, l => ∃ v l', l = v :: l' ∧ ((a.isAgg = true → ∃ ds, v = .agg (List.toArray ds) ∧ RC g w ok a ds) ∧ (a.isAgg = false → RC g w ok a [v])) ∧ RL g w ok b l'
  | .d _ _, _ => False
  | .pr _ _, _ => False
  | .one _, _ => False
  | .nl, _ => False
  | .sl _, _ => False
  | .vw _ _ _ _, _ => False
  | .ptr _ _, _ => False
  | .nilp, _ => False
  | .pv _ _, _ => False
  | .mp _, _ => False
  | .nilm, _ => False
  | .fn _ _ _, _ => False
  | .nilf, _ => False
  | .ifc _ _, _ => False
  | .yl _, _ => False
  | .nili, _ => False
  | .tu _, _ => False
  | .dead, _ => False
end
/-- A value that reads as an abstract one. -/
def RV (g : G) (w : World) (ok : Nat → Prop) (v : AV) (cv : Value) : Prop :=
  (v.isAgg = true → ∃ ds, cv = .agg (List.toArray ds) ∧ RC g w ok v ds) ∧ (v.isAgg = false → RC g w ok v [cv])

/-- The ghost of a later state. -/
def GExt (g g' : G) : Prop := (g.n ≤ g'.n ∧ g'.rt = g.rt) ∧ (∀ τ, g.dom τ → g'.dom τ ∧ g'.loc τ = g.loc τ)
theorem GExt.refl (g : G) : GExt g g := ⟨⟨Nat.le_refl _, rfl⟩, fun _ h => ⟨h, rfl⟩⟩
theorem GExt.trans {a b c : G} (h : GExt a b) (k : GExt b c) : GExt a c := ⟨⟨Nat.le_trans h.1.1 k.1.1, k.1.2.trans h.1.2⟩, fun τ ht => ⟨(k.2 τ (h.2 τ ht).1).1, (k.2 τ (h.2 τ ht).1).2.trans (h.2 τ ht).2⟩⟩
mutual
theorem RC_mono {g g' : G} {w w' : World} {ok ok' : Nat → Prop} (hg : GExt g g') (h : Holds w ok w' ok') : ∀ (v : AV) (cs : List Value), RC g w ok v cs → RC g' w' ok' v cs
  | .d t x, cs, h1 => Rd_mono h t x cs h1
  | .pr a b, cs, ⟨c1, c2, e, h1, h2⟩ => ⟨c1, c2, e, RC_mono hg h a c1 h1, RC_mono hg h b c2 h2⟩
  | .one a, cs, h1 => RC_mono hg h a cs h1
  | .nl, cs, h1 => h1
  | .sl τ, cs, ⟨h1, h2⟩ => ⟨(hg.2 τ h1).1, by rw [(hg.2 τ h1).2]; exact h2⟩
  | .vw τ lo n sz, cs, ⟨h1, v, h2, h3⟩ => ⟨(hg.2 τ h1).1, v, h2, by rw [(hg.2 τ h1).2]; exact h3⟩
  | .ptr τ p, cs, ⟨h1, h2, h3⟩ => ⟨(hg.2 τ h1).1, by rw [(hg.2 τ h1).2]; exact h2, by rw [(hg.2 τ h1).2]; exact h3⟩
  | .nilp, cs, h1 => h1
  | .pv t x, cs, ⟨ad, cells, e, h1, h2⟩ => ⟨ad, cells, e, Rd_mono h t x cells h1, Seg_mono h h2⟩
  | .mp τ, cs, ⟨h1, h2⟩ => ⟨(hg.2 τ h1).1, by rw [(hg.2 τ h1).2]; exact h2⟩
  | .nilm, cs, h1 => h1
  | .fn f a b, cs, ⟨fs, ks, h1, h2, e⟩ => ⟨fs, ks, RL_mono hg h a fs h1, RL_mono hg h b ks h2, e⟩
  | .nilf, cs, h1 => h1
  | .ifc t v, cs, ⟨cv, e, h1, h2⟩ => ⟨cv, e, fun ha => let ⟨ds, e, h3⟩ := h1 ha; ⟨ds, e, RC_mono hg h v ds h3⟩, fun ha => RC_mono hg h v [cv] (h2 ha)⟩
  | .nili, cs, h1 => h1
  | .yl τ, cs, ⟨h1, h2⟩ => ⟨(hg.2 τ h1).1, by rw [(hg.2 τ h1).2]; exact h2⟩
  | .tu vs, cs, ⟨l, h1, e⟩ => ⟨l, RL_mono hg h vs l h1, e⟩
  | .nil, _, h1 => h1
  | .cons _ _, _, h1 => h1
  | .dead, cs, h1 => h1
theorem RL_mono {g g' : G} {w w' : World} {ok ok' : Nat → Prop} (hg : GExt g g') (h : Holds w ok w' ok') : ∀ (v : AV) (l : List Value), RL g w ok v l → RL g' w' ok' v l
  | .nil, l, h1 => h1
  | .cons a b, l, ⟨v, l', e, ⟨h1, h2⟩, h3⟩ => ⟨v, l', e, ⟨fun ha => let ⟨ds, e, h4⟩ := h1 ha; ⟨ds, e, RC_mono hg h a ds h4⟩, fun ha => RC_mono hg h a [v] (h2 ha)⟩, RL_mono hg h b l' h3⟩
  | .d _ _, _, h1 => h1.elim
  | .pr _ _, _, h1 => h1.elim
  | .one _, _, h1 => h1.elim
  | .nl, _, h1 => h1.elim
  | .sl _, _, h1 => h1.elim
  | .vw _ _ _ _, _, h1 => h1.elim
  | .ptr _ _, _, h1 => h1.elim
  | .nilp, _, h1 => h1.elim
  | .pv _ _, _, h1 => h1.elim
  | .mp _, _, h1 => h1.elim
  | .nilm, _, h1 => h1.elim
  | .fn _ _ _, _, h1 => h1.elim
  | .nilf, _, h1 => h1.elim
  | .ifc _ _, _, h1 => h1.elim
  | .nili, _, h1 => h1.elim
  | .yl _, _, h1 => h1.elim
  | .tu _, _, h1 => h1.elim
  | .dead, _, h1 => h1.elim
end
theorem RV_mono {g g' : G} {w w' : World} {ok ok' : Nat → Prop} (hg : GExt g g') (h : Holds w ok w' ok') {v : AV} {cv : Value} (h1 : RV g w ok v cv) : RV g' w' ok' v cv :=
  ⟨fun ha => let ⟨ds, e, h2⟩ := h1.1 ha; ⟨ds, e, RC_mono hg h v ds h2⟩, fun ha => RC_mono hg h v _ (h1.2 ha)⟩
theorem RC_len {g : G} {w : World} {ok : Nat → Prop} : ∀ (v : AV) (cs : List Value), RC g w ok v cs → cs.length = v.size
  | .d t x, cs, h => Rd_len w ok t x cs h
  | .pr a b, cs, ⟨c1, c2, e, h1, h2⟩ => by subst e; rw [List.length_append, RC_len a c1 h1, RC_len b c2 h2]; rfl
  | .one a, cs, h => RC_len a cs h
  | .nl, cs, h => by cases h; rfl
  | .sl τ, cs, ⟨_, h⟩ => by subst h; rfl
  | .vw τ lo n sz, cs, ⟨_, v, h, _⟩ => by subst h; rfl
  | .ptr τ p, cs, ⟨_, _, h⟩ => by cases h; rfl
  | .nilp, cs, h => by cases h; rfl
  | .pv t x, cs, ⟨ad, cells, h, _⟩ => by cases h; rfl
  | .mp τ, cs, ⟨_, h⟩ => by cases h; rfl
  | .nilm, cs, h => by cases h; rfl
  | .fn f a b, cs, ⟨fs, ks, _, _, h⟩ => by cases h; rfl
  | .nilf, cs, h => by cases h; rfl
  | .ifc t v, cs, ⟨cv, h, _⟩ => by cases h; rfl
  | .nili, cs, h => by cases h; rfl
  | .yl τ, cs, ⟨_, h⟩ => by cases h; rfl
  | .tu vs, cs, ⟨l, _, h⟩ => by cases h; rfl
  | .nil, _, h => h.elim
  | .cons _ _, _, h => h.elim
  | .dead, cs, ⟨v, h⟩ => by cases h; rfl
theorem RC_one {g : G} {w : World} {ok : Nat → Prop} : ∀ (v : AV) (cs : List Value), v.sto = true → RC g w ok v cs → ∀ u ∈ cs, u.oneCell' = true
  | .d t x, cs, _, h => Rd_one w ok t x cs h
  | .pr a b, cs, hs, ⟨c1, c2, e, h1, h2⟩ => by
    subst e
    simp only [AV.sto, Bool.and_eq_true] at hs
    intro v hv
    rcases List.mem_append.1 hv with hv | hv
    · exact RC_one a c1 hs.1 h1 v hv
    · exact RC_one b c2 hs.2 h2 v hv
  | .one a, cs, hs, h => RC_one a cs hs h
  | .nl, cs, _, h => by cases h; simp [Value.oneCell']
  | .sl τ, cs, _, ⟨_, h⟩ => by subst h; simp [Value.oneCell', Loc.sv]
  | .vw τ lo n sz, cs, _, ⟨_, v, h, _, ad, e, _⟩ => by subst h; subst e; simp [Value.oneCell']
  | .ptr τ p, cs, _, ⟨_, _, h⟩ => by cases h; simp [Value.oneCell']
  | .nilp, cs, _, h => by cases h; simp [Value.oneCell']
  | .pv t x, cs, _, ⟨ad, cells, h, _⟩ => by cases h; simp [Value.oneCell']
  | .mp τ, cs, _, ⟨_, h⟩ => by cases h; simp [Value.oneCell']
  | .nilm, cs, _, h => by cases h; simp [Value.oneCell']
  | .fn f a b, cs, _, ⟨fs, ks, _, _, h⟩ => by cases h; simp [Value.oneCell']
  | .nilf, cs, _, h => by cases h; simp [Value.oneCell']
  | .ifc t v, cs, _, ⟨cv, h, _⟩ => by cases h; simp [Value.oneCell']
  | .nili, cs, _, h => by cases h; simp [Value.oneCell']
  | .yl τ, cs, _, ⟨_, h⟩ => by cases h; simp [Value.oneCell']
  | .tu vs, cs, hs, _ => by cases hs
  | .nil, _, hs, _ => by cases hs
  | .cons _ _, _, hs, _ => by cases hs
  | .dead, cs, hs, _ => by cases hs
/-- Of a value that may stand in cells: its cells. -/
theorem RV_cells {g : G} {w : World} {ok : Nat → Prop} {v : AV} {cv : Value} (hs : v.sto = true) (h : RV g w ok v cv) : RC g w ok v cv.cells.toList := by
  cases ha : v.isAgg with
  | true => obtain ⟨ds, e, h1⟩ := h.1 ha; subst e; exact h1
  | false =>
    have h1 := h.2 ha
    have h2 := RC_one v _ hs h1 cv (by simp)
    cases cv <;> first | exact h1 | simp [Value.oneCell'] at h2
end Go.Proofs.Ytkeolcgggondnaa.VX
