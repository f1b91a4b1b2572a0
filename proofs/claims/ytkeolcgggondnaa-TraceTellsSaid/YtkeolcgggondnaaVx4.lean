/- The engine, part 4: steps of the abstract memory. -/
import Derived.Test.YtkeolcgggondnaaVx3
set_option linter.unusedVariables false
set_option linter.unusedSimpArgs false
namespace Go.Proofs.Ytkeolcgggondnaa.VX
theorem mget_cons (n k : Nat) (B : Blk) (m : Mem) : mget n ((k, B) :: m) = if k = n then B else mget n m := by
  show (bif Nat.beq k n then B else mget n m) = _
  by_cases h : k = n
  · subst h; rw [Nat.beq_refl]; simp
  · rw [if_neg h]
    cases hb : Nat.beq k n with
    | false => rfl
    | true => exact absurd (Nat.eq_of_beq_eq_true hb) h
theorem fget_cons (n k : Nat) (v : AV) (f : Fr) : fget n ((k, v) :: f) = if k = n then v else fget n f := by
  show (bif Nat.beq k n then v else fget n f) = _
  by_cases h : k = n
  · subst h; rw [Nat.beq_refl]; simp
  · rw [if_neg h]
    cases hb : Nat.beq k n with
    | false => rfl
    | true => exact absurd (Nat.eq_of_beq_eq_true hb) h
section
variable {g : G} {X : Nat → Prop} {m : Mem} {w : World}
theorem Inv.lt (hI : Inv g X m w) {τ : Nat} (h : mget τ m ≠ .gone) : g.dom τ := Classical.byContradiction fun h1 => h (hI.fresh τ h1)
theorem Inv.live_lt (hI : Inv g X m w) {τ : Nat} (h : (mget τ m).live = true) : g.dom τ := hI.lt (fun e => by rw [e] at h; cases h)
theorem Inv.ndom (hI : Inv g X m w) : ¬ g.dom g.n := fun h => absurd (hI.dlt _ h) (Nat.lt_irrefl _)
theorem Inv.ne (hI : Inv g X m w) {τ : Nat} (h : g.dom τ) : τ ≠ g.n := fun e => hI.ndom (e ▸ h)
theorem Inv.heap_lt (hI : Inv g X m w) {τ : Nat} (h : Lv g m τ) : (g.loc τ).blk < w.heap.size := by
  have hB := hI.ok τ
  obtain ⟨h, hn⟩ := h
  cases hm : mget τ m with
  | var v => rw [hm] at hB; obtain ⟨_, _, _, c, e, h3, _⟩ := hB; exact lt_of_heap h3
  | row t xs =>
    rw [hm] at hB
    obtain ⟨_, _, h0⟩ := hB
    rcases h0 with ⟨h0, _⟩ | ⟨_, c, e, cells, h3, _⟩
    · rw [hn] at h0; cases h0
    · exact lt_of_heap h3
  | frz t xs => rw [hm] at h; cases h
  | mp kt vt l => rw [hm] at hB; obtain ⟨_, es, h3, _⟩ := hB; exact lt_of_heap h3
  | lp id sl sv tag => rw [hm] at hB; obtain ⟨_, rt, fn, tmps, D, st, pe, vs, _, h3, _⟩ := hB; exact lt_of_heap h3
  | fm ks vs => rw [hm] at hB; obtain ⟨_, es, cvs, h3, _⟩ := hB; exact lt_of_heap h3
  | gone => rw [hm] at h; cases h
theorem Inv.step (hI : Inv g X m w) {g' : G} {m' : Mem} {w' : World} (hx : Ext g m w g' m' w')
    (hok : ∀ τ, (g.dom τ ∧ mget τ m' = mget τ m ∧ (Lv g m τ → w'.heap[(g.loc τ).blk]? = w.heap[(g.loc τ).blk]?)) ∨ BOK g' w' (okB X g' m') τ (mget τ m'))
    (inj : ∀ τ τ', Lv g' m' τ → Lv g' m' τ' → (g'.loc τ).blk = (g'.loc τ').blk → τ = τ')
    (far : ∀ τ, Lv g' m' τ → ¬ X (g'.loc τ).blk) (fresh : ∀ τ, ¬ g'.dom τ → mget τ m' = .gone) (dlt : ∀ τ, g'.dom τ → τ < g'.n) : Inv g' X m' w' := by
  refine ⟨fun τ => ?_, inj, far, fun b hb => Nat.lt_of_lt_of_le (hI.xlt b hb) hx.size, fresh, dlt⟩
  rcases hok τ with ⟨h1, h2, h3⟩ | h
  · rw [h2]; exact BOK_mono hx.gx hx.holds h1 (fun a b => h3 ⟨a, b⟩) (hI.ok τ)
  · exact h
/-- A new number, for a block that is new or was another number's. -/
def G.new (g : G) (L : Loc) : G := { loc := fun τ => if τ = g.n then L else g.loc τ, n := g.n + 1, dom := fun τ => g.dom τ ∨ τ = g.n, rt := g.rt }
theorem G.new_ext (g : G) (L : Loc) (hn : ¬ g.dom g.n) : GExt g (g.new L) := ⟨⟨Nat.le_succ _, rfl⟩, fun τ h => ⟨.inl h, by show (if τ = g.n then _ else _) = _; rw [if_neg (fun e : τ = g.n => hn (e ▸ h))]⟩⟩
theorem G.new_nw (g : G) (L : Loc) : ∀ τ, (g.new L).dom τ → g.dom τ ∨ g.n ≤ τ := fun τ h => h.imp id (fun e => by omega)
theorem G.new_self (g : G) (L : Loc) : (g.new L).loc g.n = L := by show (if g.n = g.n then _ else _) = _; rw [if_pos rfl]
theorem G.new_old (g : G) (L : Loc) {τ : Nat} (h : τ ≠ g.n) : (g.new L).loc τ = g.loc τ := by show (if τ = g.n then _ else _) = _; rw [if_neg h]
theorem Lv_new {L : Loc} {B : Blk} {τ : Nat} (h : Lv (g.new L) ((g.n, B) :: m) τ) (hne : τ ≠ g.n) : Lv g m τ := by
  obtain ⟨h1, h2⟩ := h
  rw [mget_cons, if_neg (fun e => hne e.symm)] at h1
  rw [g.new_old L hne] at h2
  exact ⟨h1, h2⟩
theorem Ext.alloc (hI : Inv g X m w) (o : Obj) (B : Blk) (L : Loc) (hL : L.blk = w.heap.size) : Ext g m w (g.new L) ((g.n, B) :: m) (w.alloc o) := by
  refine ⟨g.new_ext L hI.ndom, g.new_nw L, by simp, fun b hb _ => ?_, fun b ⟨τ, h1, h2⟩ => ?_, rfl, rfl, rfl⟩
  · show (w.heap.push o)[b]? = _
    rw [Array.getElem?_push, if_neg (by omega)]
  · by_cases e : τ = g.n
    · subst e; rw [g.new_self] at h2; right; omega
    · rw [g.new_old L e] at h2
      exact .inl ⟨τ, Lv_new h1 e, h2⟩
/-- A new number: of a new block (or of none at all). -/
theorem Ext.fresh (hI : Inv g X m w) (B : Blk) (L : Loc) (hL : L.nil = true) : Ext g m w (g.new L) ((g.n, B) :: m) w := by
  refine ⟨g.new_ext L hI.ndom, g.new_nw L, Nat.le_refl _, fun b hb _ => rfl, fun b ⟨τ, h1, h2⟩ => ?_, rfl, rfl, rfl⟩
  by_cases e : τ = g.n
  · subst e; have := h1.2; rw [g.new_self, hL] at this; cases this
  · rw [g.new_old L e] at h2
    exact .inl ⟨τ, Lv_new h1 e, h2⟩
theorem Inv.new (hI : Inv g X m w) {w' : World} (B : Blk) (L : Loc) (hx : Ext g m w (g.new L) ((g.n, B) :: m) w') (hh : ∀ b, b < w.heap.size → w'.heap[b]? = w.heap[b]?) (hL : L.nil = true ∨ L.blk = w.heap.size)
    (hB : BOK (g.new L) w' (okB X (g.new L) ((g.n, B) :: m)) g.n B) : Inv (g.new L) X ((g.n, B) :: m) w' := by
  refine hI.step hx (fun τ => ?_) (fun τ τ' h1 h2 h3 => ?_) (fun τ h1 => ?_) (fun τ h1 => ?_) (fun τ h1 => h1.elim (fun h => Nat.lt_succ_of_lt (hI.dlt τ h)) (fun e => e ▸ Nat.lt_succ_self _))
  · by_cases e : τ = g.n
    · right; subst e; rw [mget_cons, if_pos rfl]; exact hB
    · by_cases hlt : g.dom τ
      · exact .inl ⟨hlt, by rw [mget_cons, if_neg (fun h => e h.symm)], fun hl => hh _ (hI.heap_lt hl)⟩
      · right
        rw [mget_cons, if_neg (fun h => e h.symm), hI.fresh τ hlt]; trivial
  · by_cases e : τ = g.n
    · by_cases e' : τ' = g.n
      · rw [e, e']
      · have := hI.heap_lt (Lv_new h2 e')
        have hn := h1.2
        rw [e, g.new_self] at hn
        rw [e, g.new_self, g.new_old L e'] at h3
        rcases hL with hL | hL
        · rw [hL] at hn; cases hn
        · omega
    · by_cases e' : τ' = g.n
      · have := hI.heap_lt (Lv_new h1 e)
        have hn := h2.2
        rw [e', g.new_self] at hn
        rw [e', g.new_self, g.new_old L e] at h3
        rcases hL with hL | hL
        · rw [hL] at hn; cases hn
        · omega
      · rw [g.new_old L e, g.new_old L e'] at h3
        exact hI.inj τ τ' (Lv_new h1 e) (Lv_new h2 e') h3
  · by_cases e : τ = g.n
    · have hn := h1.2
      rw [e, g.new_self] at hn ⊢
      rcases hL with hL | hL
      · rw [hL] at hn; cases hn
      · rw [hL]; intro hX; have := hI.xlt _ hX; omega
    · rw [g.new_old L e]; exact hI.far τ (Lv_new h1 e)
  · have h2 : ¬ (g.dom τ ∨ τ = g.n) := h1
    rw [mget_cons, if_neg (fun e => h2 (.inr e.symm))]
    exact hI.fresh τ (fun e => h2 (.inl e))
theorem Inv.alloc (hI : Inv g X m w) (o : Obj) (B : Blk) (L : Loc) (hL : L.blk = w.heap.size)
    (hB : BOK (g.new L) (w.alloc o) (okB X (g.new L) ((g.n, B) :: m)) g.n B) : Inv (g.new L) X ((g.n, B) :: m) (w.alloc o) :=
  hI.new B L (Ext.alloc hI o B L hL) (fun b hb => by
    show (w.heap.push o)[b]? = _
    rw [Array.getElem?_push, if_neg (by omega)]) (.inr hL) hB
/-- What stands at a number is turned, in the world and in the abstract memory. -/
theorem Lv_upd {τ : Nat} {B' : Blk} (hl : Lv g m τ) {σ : Nat} (h : Lv g ((τ, B') :: m) σ) : Lv g m σ := by
  obtain ⟨k1, k2⟩ := h
  rw [mget_cons] at k1
  by_cases e : τ = σ
  · subst e; exact hl
  · rw [if_neg e] at k1; exact ⟨k1, k2⟩
theorem Ext.upd {τ : Nat} {B' : Blk} (hl : Lv g m τ) {w' : World} (hs : w'.heap.size = w.heap.size)
    (ho : ∀ b, b ≠ (g.loc τ).blk → w'.heap[b]? = w.heap[b]?) (h1 : w'.os = w.os) (h2 : w'.tape = w.tape) (h3 : w'.output = w.output) : Ext g m w g ((τ, B') :: m) w' :=
  ⟨GExt.refl g, fun _ h => .inl h, by omega, fun b hb hno => ho b (fun e => hno ⟨τ, hl, e.symm⟩), fun b ⟨σ, k1, k2⟩ => .inl ⟨σ, Lv_upd hl k1, k2⟩, h1, h2, h3⟩
theorem Inv.upd (hI : Inv g X m w) {τ : Nat} {B' : Blk} (hl : Lv g m τ) {w' : World} (hs : w'.heap.size = w.heap.size)
    (ho : ∀ b, b ≠ (g.loc τ).blk → w'.heap[b]? = w.heap[b]?) (h1 : w'.os = w.os) (h2 : w'.tape = w.tape) (h3 : w'.output = w.output)
    (hB : BOK g w' (okB X g ((τ, B') :: m)) τ B') : Inv g X ((τ, B') :: m) w' := by
  have hx : Ext g m w g ((τ, B') :: m) w' := Ext.upd hl hs ho h1 h2 h3
  refine hI.step hx (fun σ => ?_) (fun σ σ' k1 k2 k3 => hI.inj σ σ' (Lv_upd hl k1) (Lv_upd hl k2) k3) (fun σ k1 => hI.far σ (Lv_upd hl k1)) (fun σ k1 => ?_) hI.dlt
  · by_cases e : τ = σ
    · subst e; right; rw [mget_cons, if_pos rfl]; exact hB
    · by_cases hlt : g.dom σ
      · left
        refine ⟨hlt, by rw [mget_cons, if_neg e], fun k => ho _ (fun h => e (hI.inj σ τ k hl h).symm)⟩
      · right; rw [mget_cons, if_neg e, hI.fresh σ hlt]; trivial
  · have := hI.live_lt hl.1
    rw [mget_cons, if_neg (fun e : τ = σ => k1 (e ▸ this))]; exact hI.fresh σ k1
/-- A number that is not one's own any more. -/
theorem Lv_drop {τ : Nat} {B' : Blk} (hB' : B'.live = false) {σ : Nat} (h : Lv g ((τ, B') :: m) σ) : Lv g m σ ∧ σ ≠ τ := by
  obtain ⟨k1, k2⟩ := h
  rw [mget_cons] at k1
  by_cases e : τ = σ
  · rw [if_pos e, hB'] at k1; cases k1
  · rw [if_neg e] at k1; exact ⟨⟨k1, k2⟩, fun h => e h.symm⟩
theorem Ext.drop (τ : Nat) {B' : Blk} (hB' : B'.live = false) : Ext g m w g ((τ, B') :: m) w :=
  ⟨GExt.refl g, fun _ h => .inl h, Nat.le_refl _, fun b hb hno => rfl, fun b ⟨σ, k1, k2⟩ => .inl ⟨σ, (Lv_drop hB' k1).1, k2⟩, rfl, rfl, rfl⟩
theorem Inv.drop (hI : Inv g X m w) (τ : Nat) (hτ : g.dom τ) {B' : Blk} (hB' : B'.live = false) (hB : BOK g w (okB X g ((τ, B') :: m)) τ B') : Inv g X ((τ, B') :: m) w := by
  refine hI.step (Ext.drop τ hB') (fun σ => ?_) (fun σ σ' k1 k2 k3 => hI.inj σ σ' (Lv_drop hB' k1).1 (Lv_drop hB' k2).1 k3) (fun σ k1 => hI.far σ (Lv_drop hB' k1).1) (fun σ k1 => ?_) hI.dlt
  · by_cases e : τ = σ
    · subst e; right; rw [mget_cons, if_pos rfl]; exact hB
    · by_cases hlt : g.dom σ
      · exact .inl ⟨hlt, by rw [mget_cons, if_neg e], fun _ => rfl⟩
      · right; rw [mget_cons, if_neg e, hI.fresh σ hlt]; trivial
  · rw [mget_cons, if_neg (fun e : τ = σ => k1 (e ▸ hτ))]; exact hI.fresh σ k1
theorem Own_frz {τ : Nat} {t : Ty} {xs : List t.T} (hI : Inv g X m w) (hl : Lv g m τ) : okB X g ((τ, .frz t xs) :: m) (g.loc τ).blk := by
  refine ⟨hI.far τ hl, fun ⟨σ, k1, k2⟩ => ?_⟩
  obtain ⟨k3, k4⟩ := Lv_drop rfl k1
  exact k4 (hI.inj σ τ k3 hl k2)
theorem Ext.frz {τ : Nat} {t : Ty} {xs : List t.T} : Ext g m w g ((τ, .frz t xs) :: m) w := Ext.drop τ rfl
theorem Inv.frz {τ : Nat} {t : Ty} {xs : List t.T} (hI : Inv g X m w) (hm : mget τ m = .row t xs) : Inv g X ((τ, .frz t xs) :: m) w := by
  have hx : Ext g m w g ((τ, .frz t xs) :: m) w := Ext.frz
  refine hI.drop τ (hI.live_lt (by rw [hm]; rfl)) rfl ?_
  have hB := hI.ok τ
  rw [hm] at hB
  obtain ⟨e1, e2, h0⟩ := hB
  rcases h0 with ⟨hn, hc⟩ | ⟨hn, c, el, cells, k3, k4, k5, k6⟩
  · refine ⟨none, (g.loc τ).cap, by show [Loc.sv _] = _; unfold Loc.sv; rw [hn, e1]; rfl, by rw [e1]; exact e2, .inl (List.length_eq_zero_iff.1 (by omega))⟩
  · refine ⟨some ⟨(g.loc τ).blk, (g.loc τ).base, none⟩, (g.loc τ).cap, by show [Loc.sv _] = _; unfold Loc.sv; rw [hn, e1]; rfl, by rw [e1]; exact e2, ?_⟩
    exact .inr ⟨_, cells, rfl, RdL_mono (fun x cs => Rd_mono hx.holds t x cs) _ _ k4, rfl, Own_frz hI ⟨by rw [hm]; rfl, hn⟩, c, el, _, k3, k5⟩
theorem Inv.frz1 (hI : Inv g X m w) (τ : Nat) : Inv g X (frz1 τ m) w ∧ Ext g m w g (frz1 τ m) w := by
  unfold VX.frz1
  cases hm : mget τ m with
  | row t xs => exact ⟨hI.frz hm, Ext.frz⟩
  | _ => exact ⟨hI, Ext.refl _ _ _⟩
theorem Inv.frzL : ∀ (l : List Nat) {m : Mem}, Inv g X m w → Inv g X (frzL l m) w ∧ Ext g m w g (frzL l m) w
  | [], m, hI => ⟨hI, Ext.refl _ _ _⟩
  | τ :: l, m, hI => by
    obtain ⟨h1, h2⟩ := hI.frz1 τ
    obtain ⟨h3, h4⟩ := Inv.frzL l h1
    exact ⟨h3, h2.trans h4⟩
/-- Numbers that nobody asks for any more. -/
theorem Ext.kill (τ : Nat) : Ext g m w g ((τ, .gone) :: m) w := Ext.drop τ rfl
theorem Inv.kill (hI : Inv g X m w) (τ : Nat) (hτ : g.dom τ) : Inv g X ((τ, .gone) :: m) w := hI.drop τ hτ rfl trivial
/-- A row that is another number's from now on. -/
theorem Lv_move {τ : Nat} {B' : Blk} {L : Loc} {σ : Nat} (h : Lv (g.new L) ((g.n, B') :: (τ, .gone) :: m) σ) (hne : σ ≠ g.n) : Lv g m σ ∧ σ ≠ τ := Lv_drop rfl (Lv_new h hne)
theorem Ext.move {τ : Nat} (hn : ¬ g.dom g.n) (hl : Lv g m τ) (B' : Blk) (L : Loc) (hL : L.blk = (g.loc τ).blk) {w' : World} (hs : w'.heap.size = w.heap.size)
    (ho : ∀ b, b ≠ (g.loc τ).blk → w'.heap[b]? = w.heap[b]?) (h1 : w'.os = w.os) (h2 : w'.tape = w.tape) (h3 : w'.output = w.output) : Ext g m w (g.new L) ((g.n, B') :: (τ, .gone) :: m) w' := by
  refine ⟨g.new_ext L hn, g.new_nw L, by omega, fun b hb hno => ho b (fun e => hno ⟨τ, hl, e.symm⟩), fun b ⟨σ, k1, k2⟩ => ?_, h1, h2, h3⟩
  by_cases e : σ = g.n
  · subst e; rw [g.new_self, hL] at k2; exact .inl ⟨τ, hl, k2⟩
  · rw [g.new_old L e] at k2
    exact .inl ⟨σ, (Lv_move k1 e).1, k2⟩
theorem Inv.move {τ : Nat} (hI : Inv g X m w) (hl : Lv g m τ) (B' : Blk) (L : Loc) (hL : L.blk = (g.loc τ).blk) {w' : World} (hs : w'.heap.size = w.heap.size)
    (ho : ∀ b, b ≠ (g.loc τ).blk → w'.heap[b]? = w.heap[b]?) (h1 : w'.os = w.os) (h2 : w'.tape = w.tape) (h3 : w'.output = w.output)
    (hB : BOK (g.new L) w' (okB X (g.new L) ((g.n, B') :: (τ, .gone) :: m)) g.n B') : Inv (g.new L) X ((g.n, B') :: (τ, .gone) :: m) w' := by
  have hx := Ext.move hI.ndom hl B' L hL hs ho h1 h2 h3
  have hτ := hI.live_lt hl.1
  refine hI.step hx (fun σ => ?_) (fun σ σ' k1 k2 k3 => ?_) (fun σ k1 => ?_) (fun σ k1 => ?_) (fun σ h1 => h1.elim (fun h => Nat.lt_succ_of_lt (hI.dlt σ h)) (fun e => e ▸ Nat.lt_succ_self _))
  · by_cases e : g.n = σ
    · subst e; right; rw [mget_cons, if_pos rfl]; exact hB
    · by_cases e' : τ = σ
      · right; rw [mget_cons, if_neg e, mget_cons, if_pos e']; trivial
      · by_cases hlt : g.dom σ
        · left
          refine ⟨hlt, by rw [mget_cons, if_neg e, mget_cons, if_neg e'], fun k => ho _ (fun h => e' (hI.inj σ τ k hl h).symm)⟩
        · right; rw [mget_cons, if_neg e, mget_cons, if_neg e', hI.fresh σ hlt]; trivial
  · by_cases e : σ = g.n
    · by_cases e' : σ' = g.n
      · rw [e, e']
      · obtain ⟨k4, k5⟩ := Lv_move k2 e'
        rw [e, g.new_self, g.new_old L e', hL] at k3
        exact absurd (hI.inj τ σ' hl k4 k3).symm k5
    · obtain ⟨k4, k5⟩ := Lv_move k1 e
      by_cases e' : σ' = g.n
      · rw [e', g.new_self, g.new_old L e, hL] at k3
        exact absurd (hI.inj σ τ k4 hl k3) k5
      · obtain ⟨k6, k7⟩ := Lv_move k2 e'
        rw [g.new_old L e, g.new_old L e'] at k3
        exact hI.inj σ σ' k4 k6 k3
  · by_cases e : σ = g.n
    · rw [e, g.new_self, hL]; exact hI.far τ hl
    · rw [g.new_old L e]; exact hI.far σ (Lv_move k1 e).1
  · have h2 : ¬ (g.dom σ ∨ σ = g.n) := k1
    rw [mget_cons, if_neg (fun e => h2 (.inr e.symm)), mget_cons, if_neg (fun e : τ = σ => h2 (.inl (e ▸ hτ)))]; exact hI.fresh σ (fun e => h2 (.inl e))
end
end Go.Proofs.Ytkeolcgggondnaa.VX
