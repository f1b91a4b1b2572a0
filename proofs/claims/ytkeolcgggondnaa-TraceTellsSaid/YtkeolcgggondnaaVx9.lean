/- The engine, part 9: functions' answers, and the run of a function's text. -/
import Derived.Test.YtkeolcgggondnaaVx8
import Derived.LoopN
set_option linter.unusedVariables false
set_option linter.unusedSimpArgs false
namespace Go.Proofs.Ytkeolcgggondnaa.VX
def ArgsOK (g : G) (w : World) (ok : Nat → Prop) : List AV → List Value → Prop
  | [], [] => True
  | a :: l, v :: m => RV g w ok a v ∧ ArgsOK g w ok l m
  | _, _ => False
theorem ArgsOK.append {g : G} {w : World} {ok : Nat → Prop} : ∀ {l l' : List AV} {v v' : List Value}, ArgsOK g w ok l v → ArgsOK g w ok l' v' → ArgsOK g w ok (l ++ l') (v ++ v')
  | [], l', [], v', _, h => h
  | a :: l, l', b :: v, v', ⟨h1, h2⟩, h => ⟨h1, ArgsOK.append h2 h⟩
theorem ArgsOK.mono {g g' : G} {w w' : World} {ok ok' : Nat → Prop} (hg : GExt g g') (hh : Holds w ok w' ok') : ∀ {l : List AV} {v : List Value}, ArgsOK g w ok l v → ArgsOK g' w' ok' l v
  | [], [], _ => trivial
  | a :: l, b :: v, ⟨h1, h2⟩ => ⟨RV_mono hg hh h1, ArgsOK.mono hg hh h2⟩
/-- How a call ends. -/
def CallPost {R : Type} (X : Nat → Prop) (g : G) (m : Mem) (w : World) (k kp : AV → Mem → Nat → Option R) (r : R) (e : Ending) (w' : World) : Prop :=
  (∃ v m' g' cv, e = .returned cv ∧ k v m' g'.n = some r ∧ Inv g' X m' w' ∧ RV g' w' (okB X g' m') v cv ∧ Ext g m w g' m' w') ∨
  (∃ v m' g' cv, e = .panicked [{ v := cv, recovered := false }] ∧ kp v m' g'.n = some r ∧ Inv g' X m' w' ∧ RV g' w' (okB X g' m') v cv ∧ Ext g m w g' m' w')
/-- A contract that goes on in one way alone, and lays what it writes ahead of the memory. -/
def Spec.Uni (s : Spec) : Prop := ∀ (args : List AV) (m : Mem) (N : Nat) {R : Type} (k kp : AV → Mem → Nat → Option R) (r : R), s.run args m N k kp = some r →
  (∃ v δ N', ∀ {R' : Type} (k' kp' : AV → Mem → Nat → Option R'), s.run args m N k' kp' = k' v (δ ++ m) N') ∨
  (∃ v δ N', ∀ {R' : Type} (k' kp' : AV → Mem → Nat → Option R'), s.run args m N k' kp' = kp' v (δ ++ m) N')
theorem frz1_pre (τ : Nat) (m : Mem) : ∃ δ, frz1 τ m = δ ++ m := by
  unfold frz1; split
  · exact ⟨[_], rfl⟩
  · exact ⟨[], rfl⟩
theorem frzL_pre : ∀ (l : List Nat) (m : Mem), ∃ δ, frzL l m = δ ++ m
  | [], m => ⟨[], rfl⟩
  | τ :: l, m => by
    obtain ⟨d1, h1⟩ := frz1_pre τ m
    obtain ⟨d2, h2⟩ := frzL_pre l (frz1 τ m)
    exact ⟨d2 ++ d1, by show frzL l (frz1 τ m) = _; rw [h2, List.append_assoc, ← h1]⟩
/-- The ranges over functions of a text, by their numbers. -/
def findRange (n nt : Nat) : Code → List RT
  | .seq a b => findRange n nt a ++ findRange n nt b
  | .cond _ a b => findRange n nt a ++ findRange n nt b
  | .block _ a => findRange n nt a
  | .scope a => findRange n nt a
  | .loop a => findRange n nt a
  | .rangeFunc _ ps as body => (bif Nat.beq (Code.firstId as) n then [⟨ps, as, body, nt⟩] else []) ++ findRange n nt body
  | _ => []
def rtOf (P : Program) (id : Nat) : Option RT := match P.funcs[id / 65536]? with
  | some fn => match fn.body with
    | some c => (findRange (id % 65536) fn.ntmps c)[0]?
    | none => none
  | none => none
/-- A function of the program answers as a contract says. -/
def Sound (P : Program) (f : FuncId) (s : Spec) : Prop :=
  s.Uni ∧
  (∃ fn, P.funcs[f]? = some fn ∧ fn.body.isSome = true ∧ fn.name ≠ "runtime.NumGoroutine") ∧
  ∀ {R : Type} (args : List AV) (m : Mem) (g : G) (k kp : AV → Mem → Nat → Option R) (r : R) (X : Nat → Prop) (w : World) (vs : List Value),
    s.run args m g.n k kp = some r → Inv g X m w → g.rt = rtOf P → ArgsOK g w (okB X g m) args vs → Calls P f vs.toArray w (CallPost X g m w k kp r)
def recOf (rt : RT) (fn : FuncId) (tmps : Array Value) (D : Nat) (st : LoopState) (pe : Option Code) : Loop :=
  { state := st, pending := pe, fn := fn, tmps := tmps, params := rt.ps, assign := rt.as, body := rt.body, defers := D }
/-- A round of a range over a function answers as a contract says. Its arguments: the slots that it looks at, and what is yielded; its result: how it is left. -/
def YSound (P : Program) (id : Nat) (sl : List Nat) (s : Spec) : Prop :=
  s.Uni ∧ ∃ rt, rtOf P id = some rt ∧
  ∀ {R : Type} (ls args : List AV) (m : Mem) (g : G) (k kp : AV → Mem → Nat → Option R) (r : R) (X : Nat → Prop) (w : World) (vals : List Value) (fn : FuncId) (tmps : Array Value) (l D : Nat),
    s.run (ls ++ args) m g.n k kp = some r → Inv g X m w → g.rt = rtOf P → ArgsOK g w (okB X g m) ls (sl.map fun t => tmps.getD t undef) → ArgsOK g w (okB X g m) args vals →
    tmps.size = rt.nt → X l → w.heap[l]? = some (.loop (recOf rt fn tmps D .ready none)) →
    vals.length = rt.ps.size ∧ ∀ rd, RoundIn (FR rd) 0 P l fn ((rt.ps.zip vals.toArray).foldl (fun tmps (t, a) => tmps.setIfInBounds t a) tmps) rt.as rt.body w (fun e w' => ∃ v m' g' cv kd t st pe, e = .returned (.bool (eqI t 0)) ∧ k v m' g'.n = some r ∧ v = .d (.int kd) t ∧
      Inv g' X m' w' ∧ RV g' w' (okB X g' m') v cv ∧ Ext g m w g' m' (w'.putObj l (.loop (recOf rt fn tmps D .ready none))) ∧ w'.heap[l]? = some (.loop (recOf rt fn tmps D st pe)) ∧ TagOK t st pe)
structure CtxOK (P : Program) (C : Ctx) : Prop where
  miss : ∀ (R : Type) f cl args m N k kp, C.miss (R := R) f cl args m N k kp = none
  ys : ∀ id sl s, ysget id C.ys = some (sl, s) → YSound P id sl s
  tb : ∀ t i, tget t C.tb = some i → TIok P t i
  fx : ∀ f cl s, fxget f cl C.fx = some s → Sound P f s
  mixed : P.follows .mixedOrders = true
section
variable {P : Program} {C : Ctx} {X : Nat → Prop} {R : Type} {o : Oper} {a : Act} {w : World} {g : G} {m : Mem} {k kp : AV → Mem → Nat → Option R} {r : R} {fr : Fr}
theorem force_some {v : AV} {k : AV → Option R} (h : v.force k = some r) : k v = some r := by cases v <;> exact h
theorem listAV_ok {ok : Nat → Prop} : ∀ (v : AV) (l : List AV) (vs : List Value), listAV v = some l → RL g w ok v vs → ArgsOK g w ok l vs
  | .nil, l, vs, h, hr => by cases h; cases hr; trivial
  | .cons a b, l, vs, h, ⟨cv, l', e, h1, h2⟩ => by
    simp only [listAV] at h
    split at h
    · rename_i l2 hl2
      cases h; subst e
      exact ⟨h1, listAV_ok b l2 l' hl2 h2⟩
    · cases h
  | .d _ _, _, _, h, _ => by cases h
  | .pr _ _, _, _, h, _ => by cases h
  | .one _, _, _, h, _ => by cases h
  | .nl, _, _, h, _ => by cases h
  | .sl _, _, _, h, _ => by cases h
  | .vw _ _ _ _, _, _, h, _ => by cases h
  | .ptr _ _, _, _, h, _ => by cases h
  | .nilp, _, _, h, _ => by cases h
  | .pv _ _, _, _, h, _ => by cases h
  | .mp _, _, _, h, _ => by cases h
  | .nilm, _, _, h, _ => by cases h
  | .fn _ _ _, _, _, h, _ => by cases h
  | .nilf, _, _, h, _ => by cases h
  | .ifc _ _, _, _, h, _ => by cases h
  | .nili, _, _, h, _ => by cases h
  | .tu _, _, _, h, _ => by cases h
  | .dead, _, _, h, _ => by cases h
theorem args_map {ok : Nat → Prop} {a : Act} (hf : FrOK g w ok fr a.tmps) : ∀ (l : List Operand), ArgsOK g w ok (l.map (ev fr)) (l.map a.eval)
  | [] => trivial
  | x :: l => ⟨ev_ok hf x, args_map hf l⟩
theorem call_ok {c : Call} {f : Operand} (ho : o.op = .call c) (hc : c.callee = .value f) {gf : FuncId} {first cap : AV} (hv : ev fr f = .fn gf first cap) {l1 l2 : List AV} (h1 : listAV first = some l1) (h2 : listAV cap = some l2)
    {s : Spec} (hs : Sound P gf s) (hI : Inv g X m w) (hrt : g.rt = rtOf P) (hf : FrOK g w (okB X g m) fr a.tmps) (h : s.run (l1 ++ c.args.toList.map (ev fr) ++ l2) m g.n k kp = some r) : OpR P X o a w g m k kp r := by
  intro rd next Q hn hp
  have hx := ev_ok hf f
  rw [hv] at hx
  obtain ⟨fs, ks, q1, q2, q3⟩ := hx.2 rfl
  have q3 := (List.cons.inj q3).1
  obtain ⟨_, ⟨fn, e1, e2, e3⟩, hcall⟩ := hs
  have hargs := ((listAV_ok first l1 fs h1 q1).append (args_map hf c.args.toList)).append (listAV_ok cap l2 ks h2 q2)
  have hcalls := hcall _ m g k kp r X w _ h hI hrt hargs
  have hrun : (execOp a.eval o).run P w = .ok (.enter gf ((fs ++ c.args.toList.map a.eval ++ ks).toArray)) w := by
    have e4 : fs.toArray ++ c.args.map a.eval ++ ks.toArray = (fs ++ c.args.toList.map a.eval ++ ks).toArray := by
      apply Array.toList_inj.1; simp
    have e5 : fn.body.isNone = false := by rw [Option.isNone_eq_false_iff]; exact e2
    have e6 : (fn.name == "runtime.NumGoroutine") = false := by simpa using e3
    unfold execOp
    simp only [ho, resolve, hc, q3, Deferred.ofValue, Sem.run_bind, Sem.run_pure, Result.andThen_ok, invoke, callFunc, run_program, e1, e6, e5, e4, if_false, Bool.false_eq_true]
  refine ⟨fun _ _ => trivial, ?_⟩
  rw [show (FR rd).round = rd from rfl, semAt_run hrun (fun d e => by cases e)]
  refine ⟨fun h => (by cases h), ?_⟩
  have hcI : CallsIn (FR rd) 0 P gf _ w _ := callsIn_wide.2 hcalls
  refine hcI.mono fun e w' hpost => ?_
  rcases hpost with ⟨v, m', g', cv, rfl, k1, k2, k3, k4⟩ | ⟨v, m', g', cv, rfl, k1, k2, k3, k4⟩
  · exact hn v m' g' cv w' k1 k2 k3 k4
  · exact hp v m' g' cv w' k1 k2 k3 k4
theorem bool_mk' {g : G} {w : World} {ok : Nat → Prop} (b : Bool) : RV g w ok (.d .bool b) (.bool b) := ⟨fun h => (by cases h), fun _ => rfl⟩
theorem Inv.putX {g : G} {X : Nat → Prop} {m : Mem} {w : World} (hI : Inv g X m w) {l : Nat} (hl : X l) (ob : Obj) : Inv g X m (w.putObj l ob) := by
  have hH : Holds w (okB X g m) (w.putObj l ob) (okB X g m) := fun b hb _ => ⟨hb, World.putObj_heap_other (fun e => hb.1 (e ▸ hl))⟩
  refine ⟨fun τ => ?_, hI.inj, hI.far, fun b hb => by rw [World.putObj_size]; exact hI.xlt b hb, hI.fresh, hI.dlt⟩
  by_cases hd : g.dom τ
  · exact BOK_mono (GExt.refl g) hH hd (fun h1 h2 => World.putObj_heap_other (fun e => hI.far τ ⟨h1, h2⟩ (e ▸ hl))) (hI.ok τ)
  · rw [hI.fresh τ hd]; trivial
/-- Taken out of what is one's own, into what is foreign. -/
theorem Inv.toX {g : G} {X : Nat → Prop} {m : Mem} {w : World} (hI : Inv g X m w) {τ : Nat} (hl : Lv g m τ) : Inv g (fun b => X b ∨ b = (g.loc τ).blk) ((τ, .gone) :: m) w := by
  have hd := hI.live_lt hl.1
  have hlv : ∀ σ, Lv g ((τ, .gone) :: m) σ → Lv g m σ ∧ σ ≠ τ := fun σ h => Lv_drop rfl h
  have hH : Holds w (okB X g m) w (okB (fun b => X b ∨ b = (g.loc τ).blk) g ((τ, .gone) :: m)) := fun b hb _ =>
    ⟨⟨fun h => h.elim hb.1 (fun e => hb.2 ⟨τ, hl, e.symm⟩), fun ⟨σ, h1, h2⟩ => hb.2 ⟨σ, (hlv σ h1).1, h2⟩⟩, rfl⟩
  refine ⟨fun σ => ?_, fun σ σ' h1 h2 e => hI.inj σ σ' (hlv σ h1).1 (hlv σ' h2).1 e, fun σ h1 h2 => ?_, fun b hb => hb.elim (hI.xlt b) (fun e => by subst e; exact hI.heap_lt hl), fun σ hs => ?_, hI.dlt⟩
  · rw [mget_cons]
    split
    · trivial
    · by_cases hs : g.dom σ
      · exact BOK_mono (GExt.refl g) hH hs (fun _ _ => rfl) (hI.ok σ)
      · rw [hI.fresh σ hs]; trivial
  · obtain ⟨h3, h4⟩ := hlv σ h1
    rcases h2 with h2 | h2
    · exact hI.far σ h3 h2
    · exact h4 (hI.inj σ τ h3 hl h2)
  · rw [mget_cons]
    split
    · rfl
    · exact hI.fresh σ hs
theorem holds_toX {g : G} {X : Nat → Prop} {m : Mem} {w : World} {τ : Nat} (hl : Lv g m τ) : Holds w (okB X g m) w (okB (fun b => X b ∨ b = (g.loc τ).blk) g ((τ, .gone) :: m)) := fun b hb _ =>
  ⟨⟨fun h => h.elim hb.1 (fun e => hb.2 ⟨τ, hl, e.symm⟩), fun ⟨σ, h1, h2⟩ => hb.2 ⟨σ, (Lv_drop rfl h1).1, h2⟩⟩, rfl⟩
theorem yield_ok {c : Call} {f : Operand} (ho : o.op = .call c) (hc : c.callee = .value f) {τ id : Nat} {slots : List Nat} {sv : AV} (hv : ev fr f = .yl τ) (hm : mget τ m = .lp id slots sv 0) {s : Spec} (hs : YSound P id slots s)
    {l : List AV} (hl : listAV sv = some l) (hI : Inv g X m w) (hrt : g.rt = rtOf P) (hf : FrOK g w (okB X g m) fr a.tmps)
    (h : s.run (l ++ c.args.toList.map (ev fr)) ((τ, .gone) :: m) g.n (fun v m N => match v with
              | .d (.int _) t => cond (eqI t 0) (k (.d .bool true) ((τ, .lp id slots sv 0) :: m) N) (k (.d .bool false) ((τ, .lp id slots sv t) :: m) N)
              | _ => none) (fun _ _ _ => none) = some r) : OpR P X o a w g m k kp r := by
  intro rd next Q hn hp
  have hx := ev_ok hf f
  rw [hv] at hx
  obtain ⟨q1, q2⟩ := hx.2 rfl
  have q2 := (List.cons.inj q2).1
  have hB := hI.ok τ
  rw [hm] at hB
  obtain ⟨b1, rt, fn, tmps, D, st, pe, vs, b2, b3, b4, b5, b6, b7⟩ := hB
  have hst : st = .ready ∧ pe = none := by
    rcases b7 with ⟨_, h1, h2⟩ | ⟨h1, _⟩ | ⟨i, h1, _⟩
    · exact ⟨h1, h2⟩
    · omega
    · omega
  obtain ⟨rfl, rfl⟩ := hst
  have hlv : Lv g m τ := ⟨by rw [hm]; rfl, b1⟩
  obtain ⟨_, rt', e1, hrun⟩ := hs
  have : rt' = rt := by rw [hrt, e1] at b2; exact Option.some.inj b2
  subst this
  have hls := listAV_ok sv l vs hl b5
  rw [b6] at hls
  have hH := holds_toX (X := X) (w := w) hlv
  obtain ⟨k1, k2⟩ := hrun l (c.args.toList.map (ev fr)) _ g _ _ r (fun b => X b ∨ b = (g.loc τ).blk) w (c.args.toList.map a.eval) fn tmps (g.loc τ).blk D h (hI.toX hlv) hrt (hls.mono (GExt.refl g) hH) ((args_map hf c.args.toList).mono (GExt.refl g) hH) b4 (.inr rfl) b3
  have e4 : (c.args.toList.map a.eval).toArray = c.args.map a.eval := by apply Array.toList_inj.1; simp
  rw [e4] at k2
  have hy := run_yield (P := P) (args := c.args.map a.eval) b3 (by simpa using k1)
  have hrunY : (execOp a.eval o).run P w = .ok (.round (g.loc τ).blk fn ((rt'.ps.zip (c.args.map a.eval)).foldl (fun tmps (t, a) => tmps.setIfInBounds t a) tmps) rt'.as rt'.body) w := by
    unfold execOp
    simp only [ho, resolve, hc, q2, Deferred.ofValue, Sem.run_bind, Sem.run_pure, Result.andThen_ok, invoke, callFunc]
    simpa using hy
  refine ⟨fun _ _ => trivial, ?_⟩
  rw [show (FR rd).round = rd from rfl, semAt_run hrunY (fun d e => by cases e)]
  refine ⟨fun h => (by cases h), ?_⟩
  refine (k2 rd).mono fun e w' hpost => ?_
  obtain ⟨v, m', g', cv, kd, t, st, pe, rfl, p1, rfl, p2, p3, p4, p5, p6⟩ := hpost
  simp only at p1
  have hblk : w'.heap[(g.loc τ).blk]? = some (.loop (recOf rt' fn tmps D st pe)) := p5
  have hlt := lt_of_heap b3
  have hkeep : ∀ b, b < w.heap.size → b ≠ (g.loc τ).blk → ¬ Own g ((τ, .gone) :: m) b → w'.heap[b]? = w.heap[b]? := fun b h1 h2 h3 => by
    rw [← p4.keep b h1 h3, World.putObj_heap_other h2]
  have hlo := p4.gx.2 τ q1
  have hown2 : ∀ b, Own g' ((τ, .lp id slots sv t) :: m') b → b = (g.loc τ).blk ∨ Own g' m' b := by
    rintro b ⟨σ, h1, h2⟩
    by_cases e : σ = τ
    · subst e; left; rw [← h2, hlo.2]
    · obtain ⟨h3, h4⟩ := h1
      rw [mget_cons, if_neg (fun e' => e e'.symm)] at h3
      exact .inr ⟨σ, ⟨h3, h4⟩, h2⟩
  have hH2 : Holds w' (okB (fun b => X b ∨ b = (g.loc τ).blk) g' m') w' (okB X g' ((τ, .lp id slots sv t) :: m')) := fun b hb _ =>
    ⟨⟨fun h => hb.1 (.inl h), fun h => (hown2 b h).elim (fun e => hb.1 (.inr e)) hb.2⟩, rfl⟩
  have hH1 : Holds w (okB X g m) w' (okB X g' ((τ, .lp id slots sv t) :: m')) := by
    rintro b ⟨h1, h2⟩ ⟨c1, e1, f1, h3⟩
    have hb := lt_of_heap h3
    have hne : b ≠ (g.loc τ).blk := fun e => h2 ⟨τ, hlv, e.symm⟩
    have hno : ¬ Own g ((τ, .gone) :: m) b := fun ⟨σ, k1, k2⟩ => h2 ⟨σ, (Lv_drop rfl k1).1, k2⟩
    refine ⟨⟨h1, fun h => ?_⟩, hkeep b hb hne hno⟩
    rcases hown2 b h with h | h
    · exact hne h
    · exact (p4.own b h).elim hno (by omega)
  have hlvN : ∀ σ, Lv g' ((τ, .lp id slots sv t) :: m') σ → σ ≠ τ → Lv g' m' σ := by
    rintro σ ⟨h3, h4⟩ e
    rw [mget_cons, if_neg (fun e' => e e'.symm)] at h3
    exact ⟨h3, h4⟩
  have hI' : Inv g' X ((τ, .lp id slots sv t) :: m') w' := by
    refine ⟨fun σ => ?_, fun σ σ' h1 h2 e => ?_, fun σ h1 h2 => ?_, fun b hb => p2.xlt b (.inl hb), fun σ hd => ?_, p2.dlt⟩
    · rw [mget_cons]
      split
      · rename_i e; subst e
        refine ⟨by rw [hlo.2]; exact b1, rt', fn, tmps, D, st, pe, vs, by rw [p4.gx.1.2]; exact b2, by rw [hlo.2]; exact hblk, b4, RL_mono p4.gx hH1 sv vs b5, b6, p6⟩
      · by_cases hd : g'.dom σ
        · exact BOK_mono (GExt.refl g') hH2 hd (fun _ _ => rfl) (p2.ok σ)
        · rw [p2.fresh σ hd]; trivial
    · by_cases e1 : σ = τ
      · by_cases e2 : σ' = τ
        · rw [e1, e2]
        · subst e1
          have := p2.far σ' (hlvN σ' h2 e2)
          rw [← e, hlo.2] at this
          exact absurd (.inr rfl) this
      · by_cases e2 : σ' = τ
        · subst e2
          have := p2.far σ (hlvN σ h1 e1)
          rw [e, hlo.2] at this
          exact absurd (.inr rfl) this
        · exact p2.inj σ σ' (hlvN σ h1 e1) (hlvN σ' h2 e2) e
    · by_cases e1 : σ = τ
      · subst e1; rw [hlo.2] at h2; exact hI.far σ hlv h2
      · exact p2.far σ (hlvN σ h1 e1) (.inl h2)
    · rw [mget_cons]
      split
      · rename_i e; subst e; exact absurd hlo.1 hd
      · exact p2.fresh σ hd
  have hX' : Ext g m w g' ((τ, .lp id slots sv t) :: m') w' := by
    refine ⟨p4.gx, p4.nw, by have := p4.size; rwa [World.putObj_size] at this, fun b hb hno => ?_, fun b hb => ?_, p4.os, p4.tape, p4.output⟩
    · exact hkeep b hb (fun e => hno ⟨τ, hlv, e.symm⟩) (fun ⟨σ, k1, k2⟩ => hno ⟨σ, (Lv_drop rfl k1).1, k2⟩)
    · rcases hown2 b hb with h | h
      · exact .inl ⟨τ, hlv, h.symm⟩
      · exact (p4.own b h).imp (fun ⟨σ, k1, k2⟩ => ⟨σ, (Lv_drop rfl k1).1, k2⟩) (fun h => h)
  show next (a.put o.dst _) w'
  cases ht : eqI t 0 with
  | true =>
    rw [ht] at p1
    have : t = 0 := by simpa [eqI] using ht
    subst this
    exact hn _ _ g' (.bool true) w' p1 hI' (bool_mk' true) hX'
  | false =>
    rw [ht] at p1
    exact hn _ _ g' (.bool false) w' p1 hI' (bool_mk' false) hX'
theorem len_ok {c : Call} {x : Operand} {t : TypeId} {i : TI} (ho : o.op = .call c) (hc : c.callee = .builtin .len) (ha : c.args.toList = [x]) (ht : c.argTypes.toList = [t]) (hi : TIok P t i) (hI : Inv g X m w)
    (hf : FrOK g w (okB X g m) fr a.tmps) {n : Int} (hn : lenA m i.kind i.alen (ev fr x) = some n) (h : k (.d (.int .i64) n) m g.n = some r) : OpR P X o a w g m k kp r := by
  have hx := ev_ok hf x
  have ea : c.args = #[x] := by apply Array.toList_inj.1; simpa using ha
  have et : c.argTypes = #[t] := by apply Array.toList_inj.1; simpa using ht
  have fin : (Builtin.len_ #[t] o.type #[a.eval x]).run P w = .ok (.int .i64 n) w → OpR P X o a w g m k kp r := by
    intro hr
    refine OpR.value ?_ h hI (int_mk _ _) (Ext.refl _ _ _)
    unfold execOp
    simp [ho, resolve, hc, ea, et, invoke, builtin, hr]
  have slc : ∀ (b : Option Addr) (l cap : Nat), i.kind = 2 → a.eval x = .slice b l cap → n = l → OpR P X o a w g m k kp r := by
    intro b l cap hk e hnl
    obtain ⟨el, fi, ez, k1, _⟩ := hi.slice hk
    exact fin (by simp [Builtin.len_, run_underlying k1, e, goInt, hnl])
  have arr : i.kind = 3 → n = i.alen → OpR P X o a w g m k kp r := by
    intro hk hnl
    obtain ⟨e, fi, d, u1, _⟩ := hi.array (.inl hk)
    exact fin (by simp [Builtin.len_, run_underlying u1, goInt, hnl])
  generalize hq : ev fr x = q at hn hx
  cases q with
  | d ty xs =>
    cases ty with
    | slice e =>
      obtain ⟨h1, h2⟩ := bif_some hn
      obtain ⟨ad, cap, e1, _⟩ := hx.2 rfl
      exact slc ad _ cap (Nat.eq_of_beq_eq_true h1) (List.cons.inj e1).1 (Option.some.inj h2).symm
    | str =>
      obtain ⟨h1, h2⟩ := bif_some hn
      obtain ⟨ba, e1, e2⟩ := str_get hx
      refine fin ?_
      have h3 : (ba.size : Int) = n := by rw [← Option.some.inj h2, size_data, e2]
      simp [Builtin.len_, run_underlying (hi.str (Nat.eq_of_beq_eq_true h1)), e1, goInt, h3]
    | _ => obtain ⟨h1, h2⟩ := bif_some hn; exact arr (Nat.eq_of_beq_eq_true h1) (Option.some.inj h2).symm
  | nl =>
    obtain ⟨h1, h2⟩ := bif_some hn
    exact slc none 0 0 (Nat.eq_of_beq_eq_true h1) (List.cons.inj (hx.2 rfl)).1 (Option.some.inj h2).symm
  | sl τ =>
    obtain ⟨h1, h2⟩ := bif_some hn
    obtain ⟨k1, k2⟩ := sl_get hx
    have hB := hI.ok τ
    cases hm : mget τ m with
    | row t' xs =>
      rw [hm] at h2 hB
      obtain ⟨b1, _⟩ := hB
      exact slc _ _ _ (Nat.eq_of_beq_eq_true h1) (k2.trans rfl) (by rw [← b1]; exact (Option.some.inj h2).symm)
    | frz t' xs =>
      rw [hm] at h2
      have hx2 := frz_rv hI hm hx
      obtain ⟨ad, cap, e1, _⟩ := hx2.2 rfl
      exact slc ad _ cap (Nat.eq_of_beq_eq_true h1) (List.cons.inj e1).1 (Option.some.inj h2).symm
    | _ => rw [hm] at h2; cases h2
  | vw τ lo q sz =>
    obtain ⟨h1, h2⟩ := bif_some hn
    obtain ⟨k1, v, k2, k3, ad, k4, _⟩ := hx.2 rfl
    exact slc ad q _ (Nat.eq_of_beq_eq_true h1) ((List.cons.inj k2).1.trans k4) (Option.some.inj h2).symm
  | mp τ =>
    obtain ⟨h1, h2⟩ := bif_some hn
    obtain ⟨k1, k2⟩ := hx.2 rfl
    have hB := hI.ok τ
    cases hm : mget τ m with
    | mp kt vt l =>
      rw [hm] at h2 hB
      obtain ⟨_, es, b1, b2, _⟩ := hB
      obtain ⟨kk, vv, u1, _⟩ := hi.map (Nat.eq_of_beq_eq_true h1)
      refine fin ?_
      have h3 : (es.size : Int) = n := by rw [b2]; exact Option.some.inj h2
      have hgo : (getObj (g.loc τ).blk).run P w = .ok (.map es es.size) w := by simp [getObj, Sem.run, b1]
      simp [Builtin.len_, run_underlying u1, (List.cons.inj k2).1, goInt, hgo, h3]
    | _ => rw [hm] at h2; cases h2
  | ptr τ p =>
    obtain ⟨h1, h2⟩ := bif_some hn
    obtain ⟨ar, e, u1, u2⟩ := hi.ptra (Nat.eq_of_beq_eq_true h1)
    refine fin ?_
    have h3 : (i.alen : Int) = n := Option.some.inj h2
    simp [Builtin.len_, run_underlying u1, run_underlying u2, goInt, h3]
  | _ => obtain ⟨h1, h2⟩ := bif_some hn; exact arr (Nat.eq_of_beq_eq_true h1) (Option.some.inj h2).symm
theorem getAt_lt {α : Type} (z : α) : ∀ (l : List α) (j : Nat) (hj : j < l.length), getAt z l j = l[j]
  | [], j, hj => by simp at hj
  | b :: l, 0, hj => rfl
  | b :: l, j + 1, hj => getAt_lt z l j (by simpa using hj)
theorem index_str {t : TypeId} {i : TI} {x ix : Operand} (ho : o.op = .index t x ix) (hi : TIok P t i) (hI : Inv g X m w) {s : List UInt8} {kk : IntKind} {n : Int}
    (hx : RV g w (okB X g m) (.d .str s) (a.eval x)) (hn : RV g w (okB X g m) (.d (.int kk) n) (a.eval ix))
    (h : (bif Nat.beq i.kind 5 then req (inb n (lenS s)) (k (.d (.int .u8) (byteAt s (toN n))) m g.n) else none) = some r) : OpR P X o a w g m k kp r := by
  obtain ⟨hb, h⟩ := bif_some h
  obtain ⟨h1, h2⟩ := req_some h
  have hin : 0 ≤ n ∧ n < s.length := inb_iff h1
  obtain ⟨ba, e1, e2⟩ := str_get hx
  have en := int_get hn
  refine OpR.value (cv := .int .u8 (byteAt s (toN n))) ?_ h2 hI (int_mk _ _) (Ext.refl _ _ _)
  have hlt : n.toNat < ba.data.toList.length := by rw [e2]; omega
  have hlt2 : n.toNat < ba.size := by rw [size_data]; exact hlt
  have hg : ba[n.toNat]? = some (ba[n.toNat]'hlt2) := getElem?_pos ba _ hlt2
  have hb2 : byteAt s (toN n) = ((ba[n.toNat]'hlt2).toNat : Int) := by
    unfold byteAt toN
    rw [getAt_lt 0 s _ (by omega)]
    have : (ba[n.toNat]'hlt2) = ba.data.toList[n.toNat] := rfl
    rw [this]
    congr 2
    simp only [← e2]
  unfold execOp
  rw [hb2]
  have hif : (if 0 ≤ n then ba[n.toNat]? else none) = some (ba[n.toNat]'hlt2) := by rw [if_pos hin.1]; exact hg
  simp only [ho, e1, en, Instr.index, asIntOf, Sem.run_bind, Sem.run_pure, Result.andThen_ok, run_underlying (hi.str (Nat.eq_of_beq_eq_true hb)), hif]
theorem index_arr {t : TypeId} {i : TI} {x ix : Operand} (ho : o.op = .index t x ix) (hi : TIok P t i) (hI : Inv g X m w) {v : AV} {kk : IntKind} {n : Int}
    (hx : RV g w (okB X g m) v (a.eval x)) (hn : RV g w (okB X g m) (.d (.int kk) n) (a.eval ix))
    (h : (bif Nat.beq i.kind 4 && (Nat.beq i.alen i.flds.length && v.isAgg) then casesIdx n i.flds 0 fun s => match v.sel s with
          | some v' => bif Nat.beq v'.size i.esz && (v'.isAgg == getAt false i.fag 0) then k v' m g.n else none
          | none => none else none) = some r) : OpR P X o a w g m k kp r := by
  obtain ⟨hb, h⟩ := bif_some h
  simp only [Bool.and_eq_true] at hb
  obtain ⟨j, j1, j2, j3⟩ := casesIdx_some _ _ h
  obtain ⟨e, fi, d, u1, u2, u3, u4⟩ := hi.array (.inr (Nat.eq_of_beq_eq_true hb.1))
  obtain ⟨u7, u8, u5⟩ := u4 (Nat.eq_of_beq_eq_true hb.1)
  obtain ⟨u6, u9⟩ := u5 j j1
  have hal := Nat.eq_of_beq_eq_true hb.2.1
  obtain ⟨ds, e1, e2⟩ := hx.1 hb.2.2
  cases hs : v.sel (getAt .inn i.flds j) with
  | none => rw [hs] at j3; cases j3
  | some v' =>
    rw [hs] at j3
    obtain ⟨hz, j3⟩ := bif_some j3
    rw [Bool.and_eq_true] at hz
    obtain ⟨c0, c1, c2, q1, q2, q3⟩ := sel_ok hs (u9 0) e2
    obtain ⟨cv, p1, p2⟩ := part_run (P := P) (cs := ds.toArray) u2 u7 u8 (by simpa using q1) q3 ((Nat.eq_of_beq_eq_true hz.1).trans u3.symm) (beq_bool hz.2)
    have en := int_get hn
    have j2' : n = (j : Int) := by omega
    refine OpR.value ?_ j3 hI p2 (Ext.refl _ _ _)
    unfold execOp
    rw [q2, u6] at p1
    have hsz : (sizeOf e).run P w = .ok i.esz w := by simp [sizeOf, typeInfo, u2, u3]
    simp [ho, e1, en, Instr.index, asIntOf, run_underlying u1, j2', hal, j1, hsz, p1]
theorem index_ok {t : TypeId} {i : TI} {x ix : Operand} (ho : o.op = .index t x ix) (hi : TIok P t i) (hI : Inv g X m w) (hf : FrOK g w (okB X g m) fr a.tmps)
    (h : (match ev fr x, ev fr ix with
      | .d .str s, .d (.int _) n => bif Nat.beq i.kind 5 then req (inb n (lenS s)) (k (.d (.int .u8) (byteAt s (toN n))) m g.n) else none
      | v, .d (.int _) n => bif Nat.beq i.kind 4 && (Nat.beq i.alen i.flds.length && v.isAgg) then casesIdx n i.flds 0 fun s => match v.sel s with
          | some v' => bif Nat.beq v'.size i.esz && (v'.isAgg == getAt false i.fag 0) then k v' m g.n else none
          | none => none else none
      | _, _ => none) = some r) : OpR P X o a w g m k kp r := by
  have hx := ev_ok hf x
  have hn := ev_ok hf ix
  generalize ev fr x = v at *
  generalize ev fr ix = u at *
  split at h
  · exact index_str ho hi hI hx hn h
  · exact index_arr ho hi hI hx hn h
  · cases h
end
end Go.Proofs.Ytkeolcgggondnaa.VX
