/- The engine, part Y: functions by shapes are sound; rounds; ranges over functions. -/
import Derived.Test.YtkeolcgggondnaaVxK
set_option linter.unusedVariables false
set_option linter.unusedSimpArgs false
namespace Go.Proofs.Ytkeolcgggondnaa.VX
theorem seqK_keys : ∀ (l : List (Nat × Pat)) (n : Nat) (d : List Dyn), seqK n l = true → ∀ i, i < l.length → ∀ v, (slotsFill l d).1[i]? = some v → v.1 = n + i
  | [], n, d, h, i, hi, v, hv => by simp at hi
  | (k, p) :: l, n, d, h, i, hi, v, hv => by
    have h : (Nat.beq k n && seqK (n + 1) l) = true := h
    rw [Bool.and_eq_true] at h
    have hk := Nat.eq_of_beq_eq_true h.1
    have hv : ((k, (p.fill d).1) :: (slotsFill l (p.fill d).2).1)[i]? = some v := hv
    cases i with
    | zero => simp at hv; subst hv; simp [hk]
    | succ i =>
      simp only [List.getElem?_cons_succ] at hv
      have := seqK_keys l (n + 1) _ h.2 i (by simpa using hi) v hv
      omega
theorem slotsFill_len : ∀ (l : List (Nat × Pat)) (d : List Dyn), (slotsFill l d).1.length = l.length
  | [], d => rfl
  | (k, p) :: l, d => by
    show ((k, (p.fill d).1) :: (slotsFill l (p.fill d).2).1).length = _
    simp [slotsFill_len l]
/-- The results as they stand in a frame of their own. -/
theorem frame_args {g : G} {w : World} {ok : Nat → Prop} {ρ : Nat → Nat} : ∀ (fr : Fr) (us : List Value) (n : Nat) (full : Array Value), fr.length = us.length → (∀ i v, fr[i]? = some v → v.1 = n + i) →
    (∀ i u, us[i]? = some u → full.getD (n + i) undef = u) → (∀ t, n ≤ t → RV g w ok ((fget t fr).ren ρ) (full.getD t undef)) → ArgsOK g w ok (fr.map fun p => p.2.ren ρ) us
  | [], [], n, full, _, _, _, _ => trivial
  | (k, v) :: fr, u :: us, n, full, hl, hk, hf, hr => by
    have hk0 : k = n := by have := hk 0 (k, v) rfl; simpa using this
    subst hk0
    refine ⟨?_, frame_args fr us (k + 1) full (by simpa using hl) (fun i v hv => by have := hk (i + 1) v (by simpa using hv); omega) (fun i u hu => by have := hf (i + 1) u (by simpa using hu); rw [← this]; congr 1; omega) (fun t ht => ?_)⟩
    · have := hr k (Nat.le_refl _)
      rw [fget_cons, if_pos rfl] at this
      have h0 := hf 0 u rfl
      rw [Nat.add_zero] at h0
      rw [h0] at this
      exact this
    · have := hr t (by omega)
      rw [fget_cons, if_neg (by omega)] at this
      exact this
  | [], _ :: _, _, _, h, _, _, _ => by cases h
  | _ :: _, [], _, _, h, _, _, _ => by cases h
theorem avList_ren {ρ : Nat → Nat} : ∀ (l : List AV), (avList l).ren ρ = avList (l.map fun v => v.ren ρ)
  | [] => rfl
  | a :: l => by show AV.cons (a.ren ρ) ((avList l).ren ρ) = _; rw [avList_ren l]; rfl
theorem outAV_ok {g : G} {w : World} {ok : Nat → Prop} {ρ : Nat → Nat} (fr : Fr) (us : List Value) (h : ArgsOK g w ok (fr.map fun p => p.2.ren ρ) us) : RV g w ok ((outAV fr).ren ρ) (resVal us) := by
  match fr, us, h with
  | [], [], _ => exact ⟨fun e => (by cases e), fun _ => ⟨[], rfl, rfl⟩⟩
  | [(k, v)], [u], h => exact h.1
  | (k, v) :: (k2, v2) :: fr, u :: u2 :: us, h =>
    have e : (outAV ((k, v) :: (k2, v2) :: fr)).ren ρ = .tu (avList (((k, v) :: (k2, v2) :: fr).map fun p => p.2.ren ρ)) := by
      show AV.tu ((avList _).ren ρ) = _
      rw [avList_ren, List.map_map]; rfl
    rw [e]
    exact ⟨fun e => (by cases e), fun _ => ⟨_, RL_ofArgs _ _ h, rfl⟩⟩
  | [], _ :: _, h => exact h.elim
  | _ :: _, [], h => exact h.elim
  | [_], _ :: _ :: _, h => exact h.2.elim
  | _ :: _ :: _, [_], h => exact h.2.elim
theorem args_len {g : G} {w : World} {ok : Nat → Prop} : ∀ {l : List AV} {us : List Value}, ArgsOK g w ok l us → l.length = us.length
  | [], [], _ => rfl
  | a :: l, b :: us, ⟨_, h⟩ => by simp [args_len h]
  | [], _ :: _, h => h.elim
  | _ :: _, [], h => h.elim
theorem Spec.shp_uni (sh ro : Shape) (F : HL sh.ts → Option (HL ro.ts)) : (Spec.shp sh ro F).Uni := by
  intro args m N R k kp r h
  left
  simp only [Spec.shp] at h ⊢
  obtain ⟨h1, h2⟩ := bif_some h
  clear h
  split at h2
  · rename_i x as hx
    cases hF : F x with
    | none => rw [hF] at h2; cases h2
    | some y =>
      obtain ⟨δ, hδ⟩ := frzL_pre (sh.fzs (initFr 0 args) m) m
      exact ⟨(outAV (ro.fr y)).ren (rho ro.pin as N), renMem (rho ro.pin as N) (ro.mem y) ++ (dropA as ro.pin (sh.bl.length - ro.pin) ++ δ), N + ro.bl.length, fun k' kp' => by simp only [h1, cond_true, hF, Option.bind_some, hδ, List.append_assoc]⟩
  · cases h2
section
variable {P : Program} {C : Ctx}
theorem arg_frame {g : G} {w : World} {ok : Nat → Prop} {args : List AV} {vs : List Value} (n : Nat) (h : ArgsOK g w ok args vs) : FrOK g w ok (initFr 0 args) (vs.toArray ++ Array.replicate n undef) := by
  refine initFr_ok _ vs 0 _ h (fun i v hv => ?_)
  have hi : i < vs.length := (List.getElem?_eq_some_iff.1 hv).1
  simp only [Nat.zero_add, Array.getD_eq_getD_getElem?]
  rw [Array.getElem?_append_left (by simpa using hi)]
  simp [hv]
/-- A function whose text, run abstractly from a shape on, comes to another shape. -/
theorem Sound.shp {f : FuncId} {fn : Func} {c : Code} (hf : P.funcs[f]? = some fn) (hb : fn.body = some c) (hn : fn.name ≠ "runtime.NumGoroutine") (hC : CtxOK P C) (hS : SumOK P C c) (hnt : fn.ntmps = C.nt)
    (sh ro : Shape) (hro : ro.pin = C.pin) (hpsh : C.pin ≤ sh.bl.length) (hpro : C.pin ≤ ro.bl.length) (hsh : sh.pin = 0) (hts : sh.sl.length ≤ C.nt) (hk : seqK 0 ro.sl = true)
    (F : HL sh.ts → Option (HL ro.ts)) (heq : ∀ x, exec C c (sh.fr x) (sh.mem x) sh.bl.length (retS C fn.results.toList ro) = F x) : Sound P f (Spec.shp sh ro F) := by
  refine ⟨Spec.shp_uni sh ro F, ⟨fn, hf, by rw [hb]; rfl, hn⟩, ?_⟩
  intro R args m g k kp r X w vs hrun hI hrt hargs
  simp only [Spec.shp] at hrun
  obtain ⟨hlen, hrun⟩ := bif_some hrun
  have hlen := Nat.eq_of_beq_eq_true hlen
  obtain ⟨hI1, hx1⟩ := Inv.frzL (sh.fzs (initFr 0 args) m) hI
  split at hrun
  · rename_i x as hx
    unfold Shape.getA at hx
    generalize hm1 : frzL (sh.fzs (initFr 0 args) m) m = m1 at *
    cases hF : F x with
    | none => rw [hF] at hrun; cases hrun
    | some y =>
      rw [hF, Option.bind_some] at hrun
      have hvl : vs.length = sh.sl.length := by rw [← hlen]; exact (args_len hargs).symm
      have hfr0 := arg_frame (fn.ntmps - vs.toArray.size) (ArgsOK.mono hx1.gx (hx1.holds (X := X)) hargs)
      obtain ⟨hT, hfr⟩ := get_ok2 sh hx hI1 hfr0 (outX X g m1 as) (fun _ h => .inl h) (fun _ h => h)
      have hD := get_dom sh hx hI1 hfr0 hsh
      let E : Env := ⟨C.nt, C.pin, w.heap.size, none, rtOf P⟩
      have hE : EnvOK P C.ek E := ⟨rfl, rfl, fun _ => rfl, rfl⟩
      have hexec := heq x
      rw [hF] at hexec
      have hgoal : CallsIn Fence.wide 0 P f vs.toArray w (CallPost X g m w k kp r) := by
        refine callsIn_of_wp_marks hf hb trivial ?_
        refine wpIn_mono (exec_ok hC hE c hS (sh.fr x) (sh.mem x) (asgG g as sh.bl.length) _ y (outX X g m1 as) { tmps := vs.toArray ++ Array.replicate (fn.ntmps - vs.toArray.size) undef, defers := [] } w hexec ⟨hT.inv, hfr, ?_, trivial, hrt, Nat.le_refl _⟩) ?_
        · show (vs.toArray ++ Array.replicate (fn.ntmps - vs.toArray.size) undef).size = C.nt
          simp [hvl, hnt]; omega
        · rintro e a' w' ⟨e', fr', m', g', q1, q2, q3, q4⟩
          have hmain : (∃ l, resVals C fr' m' fn.results.toList = some l ∧ (bif Nat.beq l.length ro.sl.length then ro.get (initFr 0 l) m' else none) = some y) → LeavesInM Fence.wide 0 P fn a'.tmps (CallPost X g m w k kp r) a'.defers .returning w' := by
            rintro ⟨l, hl, hy⟩
            obtain ⟨hll, hy⟩ := bif_some hy
            have hll := Nat.eq_of_beq_eq_true hll
            refine leaves_marks (by intro e; cases e) a'.defers w' q3.defers (DSame.refl _ _) q3.defers.at (fun w2 hd2 => ?_)
            have q4 := hd2.ext (Nat.le_refl _) q4
            have hI2 := hd2.inv q3.inv
            have hfr2 : FrOK g' w2 (okB (outX X g m1 as) g' m') fr' a'.tmps := FrOK.mono (GExt.refl g') (hd2.holds _) q3.fr
            obtain ⟨us, u1, u2⟩ := resVals_ok hC hI2 hfr2 fn.results.toList l hl
            have hul := args_len u2
            unfold Shape.get at hy
            split at hy
            · rename_i y' as3 hy'
              cases hy
              unfold Shape.getA at hy'
              obtain ⟨hI3, hx3⟩ := Inv.frzL (ro.fzs (initFr 0 l) m') hI2
              have q5 := q4.trans hx3.to0
              have hfr3 := arg_frame 0 (ArgsOK.mono hx3.gx (hx3.holds (X := outX X g m1 as)) u2)
              have q5 : Ext0 C.pin (asgG g as sh.bl.length) (sh.mem x) w g' (frzL (ro.fzs (initFr 0 l) m') m') w2 := q5
              obtain ⟨g4, n4, i4, x4, r4⟩ := leave_ok hI1 hT hD hI3 hpsh hpro q5 hfr3 hy' hro
              rw [hro] at hrun
              refine ⟨resVal us, run_results u1, .inl ⟨_, _, g4, resVal us, rfl, by rw [n4]; exact hrun, i4, ?_, hx1.trans x4⟩⟩
              refine outAV_ok _ us (frame_args _ us 0 (us.toArray ++ Array.replicate 0 undef) ?_ (fun i v hv => ?_) (fun i u hu => ?_) (fun t _ => r4 t))
              · unfold Shape.fr; rw [slotsFill_len, ← hll, hul]
              · have hi : i < ro.sl.length := by
                  have h1 := (List.getElem?_eq_some_iff.1 hv).1
                  unfold Shape.fr at h1
                  rw [slotsFill_len] at h1; exact h1
                exact seqK_keys ro.sl 0 _ hk i hi v hv
              · simp [Array.getD_eq_getD_getElem?, hu]
            · cases hy
          have hopt : ∀ (o : Option (List AV)), (match o with | some l => bif Nat.beq l.length ro.sl.length then ro.get (initFr 0 l) m' else none | none => none) = some y → ∃ l, o = some l ∧ (bif Nat.beq l.length ro.sl.length then ro.get (initFr 0 l) m' else none) = some y := by
            intro o ho
            cases o with
            | none => cases ho
            | some l => exact ⟨l, rfl, ho⟩
          cases e' with
          | normal => cases q1; exact hmain (hopt _ q2)
          | ret => cases q1; exact hmain (hopt _ q2)
          | exit i => cases q2
          | goto l => cases q2
          | panic v => cases q2
      exact callsIn_wide.1 hgoal
  · cases hrun
/-- Rounds. -/
def zipFr : List Nat → List AV → Fr
  | k :: ks, a :: l => (k, a) :: zipFr ks l
  | _, _ => []
def Spec.rnd (keys : List Nat) (sh ro : Shape) (F : HL sh.ts → Option (HL ro.ts)) : Spec where
  run args m N k kp := bif Nat.beq args.length keys.length then match sh.getA (zipFr keys args) m with
    | some (x, as) => (F x).bind fun y => k ((outAV (ro.fr y)).ren (rho ro.pin as N)) (renMem (rho ro.pin as N) (ro.mem y) ++ (dropA as ro.pin (sh.bl.length - ro.pin) ++ frzL (sh.fzs (zipFr keys args) m) m)) (N + ro.bl.length)
    | none => none else none
def retY (ro : Shape) : Ex → Fr → Mem → Nat → Option (HL ro.ts)
  | .normal, fr, m, _ => ro.get [(0, .d (.int .i64) (0 : Int))] m
  | .ret, fr, m, _ => ro.get [(0, .d (.int .i64) (1 : Int))] m
  | .exit i, fr, m, _ => ro.get [(0, .d (.int .i64) (natI (i + 2)))] m
  | _, _, _, _ => none
theorem Spec.rnd_uni (keys : List Nat) (sh ro : Shape) (F : HL sh.ts → Option (HL ro.ts)) : (Spec.rnd keys sh ro F).Uni := by
  intro args m N R k kp r h
  left
  simp only [Spec.rnd] at h ⊢
  obtain ⟨h1, h2⟩ := bif_some h
  clear h
  split at h2
  · rename_i x as hx
    cases hF : F x with
    | none => rw [hF] at h2; cases h2
    | some y =>
      obtain ⟨δ, hδ⟩ := frzL_pre (sh.fzs (zipFr keys args) m) m
      exact ⟨(outAV (ro.fr y)).ren (rho ro.pin as N), renMem (rho ro.pin as N) (ro.mem y) ++ (dropA as ro.pin (sh.bl.length - ro.pin) ++ δ), N + ro.bl.length, fun k' kp' => by simp only [h1, cond_true, hF, Option.bind_some, hδ, List.append_assoc]⟩
  · cases h2
theorem zip_frame {g : G} {w : World} {ok : Nat → Prop} : ∀ (keys : List Nat) (args : List AV) (vs : List Value) (tmps : Array Value), ArgsOK g w ok args vs → (∀ (i k : Nat) (v : Value), keys[i]? = some k → vs[i]? = some v → tmps.getD k undef = v) → FrOK g w ok (zipFr keys args) tmps
  | [], args, vs, tmps, _, _ => by cases args <;> exact fun t => RV_dead _ _ _ _
  | k :: ks, [], vs, tmps, _, _ => fun t => RV_dead _ _ _ _
  | k :: ks, a :: l, v :: vs, tmps, ⟨h1, h2⟩, h => by
    intro t
    show RV g w ok (fget t ((k, a) :: zipFr ks l)) _
    rw [fget_cons]
    split
    · rename_i e; subst e
      rw [h 0 k v rfl rfl]; exact h1
    · exact zip_frame ks l vs tmps h2 (fun i k v hk hv => h (i + 1) k v (by simpa using hk) (by simpa using hv)) t
  | k :: ks, _ :: _, [], tmps, h, _ => h.elim
theorem fold_other : ∀ (ps : List Nat) (vs : List Value) (tmps : Array Value) (k : Nat), k ∉ ps → ((ps.zip vs).foldl (fun tmps (t, a) => tmps.setIfInBounds t a) tmps).getD k undef = tmps.getD k undef
  | [], _, _, _, _ => by simp
  | p :: ps, [], _, _, _ => by simp
  | p :: ps, v :: vs, tmps, k, h => by
    simp only [List.mem_cons, not_or] at h
    simp only [List.zip_cons_cons, List.foldl_cons]
    rw [fold_other ps vs _ k h.2]
    simp only [Array.getD_eq_getD_getElem?, Array.getElem?_setIfInBounds_ne (Ne.symm h.1)]
theorem fold_size : ∀ (ps : List Nat) (vs : List Value) (tmps : Array Value), ((ps.zip vs).foldl (fun tmps (t, a) => tmps.setIfInBounds t a) tmps).size = tmps.size
  | [], _, _ => by simp
  | p :: ps, [], _ => by simp
  | p :: ps, v :: vs, tmps => by
    simp only [List.zip_cons_cons, List.foldl_cons]
    rw [fold_size ps vs]; simp
theorem fold_at : ∀ (ps : List Nat) (vs : List Value) (tmps : Array Value), ps.Nodup → (∀ p ∈ ps, p < tmps.size) → ∀ (i k : Nat) (v : Value), ps[i]? = some k → vs[i]? = some v → ((ps.zip vs).foldl (fun tmps (t, a) => tmps.setIfInBounds t a) tmps).getD k undef = v
  | [], _, _, _, _, i, k, v, hk, _ => by simp at hk
  | p :: ps, [], _, _, _, i, k, v, _, hv => by simp at hv
  | p :: ps, u :: vs, tmps, hn, hs, i, k, v, hk, hv => by
    simp only [List.zip_cons_cons, List.foldl_cons]
    rw [List.nodup_cons] at hn
    cases i with
    | zero =>
      simp at hk hv
      subst hk hv
      rw [fold_other ps vs _ p hn.1]
      have := hs p (List.mem_cons_self ..)
      simp [Array.getD, this]
    | succ i =>
      exact fold_at ps vs _ hn.2 (fun q hq => by simpa using hs q (List.mem_cons_of_mem _ hq)) i k v (by simpa using hk) (by simpa using hv)
theorem put_put (w : World) (l : Nat) (a b : Obj) : (w.putObj l a).putObj l b = w.putObj l b := by
  unfold World.putObj
  simp
theorem put_same {w : World} {l : Nat} {a : Obj} (h : w.heap[l]? = some a) : w.putObj l a = w := by
  unfold World.putObj
  have : w.heap.setIfInBounds l a = w.heap := by
    apply Array.ext_getElem?
    intro i
    by_cases e : l = i
    · subst e
      rw [h]
      have hlt := (Array.getElem?_eq_some_iff.1 h).1
      simp [hlt]
    · rw [Array.getElem?_setIfInBounds_ne e]
  rw [this]
/-- A round whose text, run abstractly, comes to a shape. -/
theorem YSound.rnd {id : Nat} {rt : RT} (hrt0 : rtOf P id = some rt) (hC : CtxOK P C) (hS1 : SumOK P C rt.as) (hS2 : SumOK P C rt.body) (hnt : rt.nt = C.nt) (hnr : C.nr = false) (sl : List Nat)
    (sh ro : Shape) (hro : ro.pin = C.pin) (hpsh : C.pin ≤ sh.bl.length) (hpro : C.pin ≤ ro.bl.length) (hsh : sh.pin = 0) (hv : ∀ y, ∃ t, ro.fr y = [(0, .d (.int .i64) t)])
    (hps : rt.ps.toList.Nodup) (hpn : ∀ p ∈ rt.ps.toList, p < rt.nt ∧ p ∉ sl)
    (F : HL sh.ts → Option (HL ro.ts)) (heq : ∀ x, exec C rt.as (sh.fr x) (sh.mem x) sh.bl.length (fun e fr m N => match e with | .normal => exec C rt.body fr m N (retY ro) | _ => none) = F x) :
    YSound P id sl (Spec.rnd (sl ++ rt.ps.toList) sh ro F) := by
  refine ⟨Spec.rnd_uni _ sh ro F, rt, hrt0, ?_⟩
  intro R ls args m g k kp r X w vals fn tmps l D hrun hI hrt hls hargs htn hXl hrec
  simp only [Spec.rnd] at hrun
  obtain ⟨hlen, hrun⟩ := bif_some hrun
  have hlen := Nat.eq_of_beq_eq_true hlen
  have hl1 := args_len hls
  have hl2 := args_len hargs
  simp only [List.length_append, List.length_map] at hlen hl1
  have hvp : vals.length = rt.ps.size := by rw [← hl2]; have : rt.ps.toList.length = rt.ps.size := by simp
                                            omega
  refine ⟨hvp, fun rd => ?_⟩
  obtain ⟨hI1, hx1⟩ := Inv.frzL (sh.fzs (zipFr (sl ++ rt.ps.toList) (ls ++ args)) m) hI
  split at hrun
  · rename_i x as hx
    unfold Shape.getA at hx
    generalize hm1 : frzL (sh.fzs (zipFr (sl ++ rt.ps.toList) (ls ++ args)) m) m = m1 at *
    cases hF : F x with
    | none => rw [hF] at hrun; cases hrun
    | some y =>
      rw [hF, Option.bind_some] at hrun
      have hzip : (rt.ps.zip vals.toArray).foldl (fun tmps (t, a) => tmps.setIfInBounds t a) tmps = (rt.ps.toList.zip vals).foldl (fun tmps (t, a) => tmps.setIfInBounds t a) tmps := by
        rw [← Array.foldl_toList]; simp
      rw [hzip]
      have hsz := fold_size rt.ps.toList vals tmps
      have hfr0 : FrOK g w (okB X g m1) (zipFr (sl ++ rt.ps.toList) (ls ++ args)) ((rt.ps.toList.zip vals).foldl (fun tmps (t, a) => tmps.setIfInBounds t a) tmps) := by
        refine zip_frame _ _ _ _ (ArgsOK.mono hx1.gx (hx1.holds (X := X)) (hls.append hargs)) (fun i k v hk hv => ?_)
        by_cases hi : i < sl.length
        · rw [List.getElem?_append_left hi] at hk
          rw [List.getElem?_append_left (by simpa using hi), List.getElem?_map, hk] at hv
          rw [fold_other _ _ _ _ (fun h => (hpn k h).2 (List.mem_of_getElem? hk))]
          exact Option.some.inj hv
        · rw [List.getElem?_append_right (by omega)] at hk
          rw [List.getElem?_append_right (by simp; omega)] at hv
          rw [List.length_map] at hv
          exact fold_at _ _ _ hps (fun p hp => by rw [htn]; exact (hpn p hp).1) _ k v hk hv
      generalize hT0 : (rt.ps.toList.zip vals).foldl (fun tmps (t, a) => tmps.setIfInBounds t a) tmps = tmps2 at *
      obtain ⟨hT, hfr⟩ := get_ok2 sh hx hI1 hfr0 (outX X g m1 as) (fun _ h => .inl h) (fun _ h => h)
      have hD := get_dom sh hx hI1 hfr0 hsh
      let E : Env := ⟨C.nt, C.pin, w.heap.size, some l, rtOf P⟩
      have hE : EnvOK P C.ek E := ⟨rfl, rfl, fun h => (by have h : C.nr = true := h; rw [hnr] at h; cases h), rfl⟩
      have hexec := heq x
      rw [hF] at hexec
      have hXl1 : outX X g m1 as l := .inl hXl
      have hlt := lt_of_heap hrec
      refine roundIn_of_wpIn trivial ?_
      refine wpIn_mono (exec_ok hC hE rt.as hS1 (sh.fr x) (sh.mem x) (asgG g as sh.bl.length) _ y (outX X g m1 as) { tmps := tmps2, defers := [] } w hexec ⟨hT.inv, hfr, by show tmps2.size = C.nt; rw [hsz, htn, hnt], trivial, hrt, Nat.le_refl _⟩) ?_
      rintro e1 a1 w1 ⟨e', fr1, m1', g1, q1, q2, q3, q4⟩
      have hnl : ∀ {gg : G} {mm : Mem} {ww : World}, Inv gg (outX X g m1 as) mm ww → ¬ Own gg mm l := fun hh ⟨σ, h1, h2⟩ => hh.far σ h1 (h2 ▸ hXl1)
      cases e' with
      | normal =>
        cases q1
        simp only at q2
        have hrec1 : w1.heap[l]? = some (.loop (recOf rt fn tmps D .ready none)) := (q4.keep l hlt (hnl hT.inv)).trans hrec
        have hlt1 := lt_of_heap hrec1
        refine ⟨_, run_beginRound hrec1 rfl, ?_⟩
        generalize hw2 : w1.putObj l (.loop { recOf rt fn tmps D .ready none with state := .busy }) = w2
        have hI2 : Inv g1 (outX X g m1 as) m1' w2 := by rw [← hw2]; exact q3.inv.putX hXl1 _
        have hH12 : Holds w1 (okB (outX X g m1 as) g1 m1') w2 (okB (outX X g m1 as) g1 m1') := fun b hb _ => ⟨hb, by rw [← hw2]; exact World.putObj_heap_other (fun e => hb.1 (e ▸ hXl1))⟩
        have hdf : DfOK E.b0 w2 (okB (outX X g m1 as) g1 m1') a1.defers := q3.defers.mono (fun D' h1 _ => ⟨h1, by rw [← hw2]; exact World.putObj_heap_other (fun e => h1.1 (e ▸ hXl1))⟩)
        refine wpIn_mono (exec_ok hC hE rt.body hS2 fr1 m1' g1 _ y (outX X g m1 as) a1 w2 q2 ⟨hI2, FrOK.mono (GExt.refl g1) hH12 q3.fr, q3.size, hdf, q3.rt, by have := q3.b0; rw [← hw2, World.putObj_size]; exact this⟩) ?_
        rintro e2 a2 w3 ⟨e'', fr3, m3, g3, p1, p2, p3, p4⟩
        have hrec2 : w2.heap[l]? = some (.loop { recOf rt fn tmps D .ready none with state := .busy }) := by rw [← hw2]; exact World.putObj_heap_same hlt1
        have hrec3 : w3.heap[l]? = some (.loop { recOf rt fn tmps D .ready none with state := .busy }) := (p4.keep l (by rw [← hw2, World.putObj_size]; exact hlt1) (hnl hI2)).trans hrec2
        have hlt3 := lt_of_heap hrec3
        -- the world with the record as it was
        have hV : Ext0 C.pin (asgG g as sh.bl.length) (sh.mem x) w g3 m3 (w3.putObj l (.loop (recOf rt fn tmps D .ready none))) := by
          have h1 : Ext0 C.pin g1 m1' w1 g3 m3 (w3.putObj l (.loop (recOf rt fn tmps D .ready none))) := by
            refine ⟨p4.rt, p4.pin, ?_, fun b hb hno => ?_, fun b hb => ?_, ?_, ?_, ?_⟩
            · have := p4.size; rw [← hw2, World.putObj_size] at this; rw [World.putObj_size]; exact this
            · by_cases e : b = l
              · subst e; rw [World.putObj_heap_same hlt3, hrec1]
              · rw [World.putObj_heap_other e, p4.keep b (by rw [← hw2, World.putObj_size]; exact hb) hno, ← hw2, World.putObj_heap_other e]
            · rcases p4.own b hb with h | h
              · exact .inl h
              · right; rw [← hw2, World.putObj_size] at h; exact h
            · have := p4.os; rw [← hw2] at this; exact this
            · have := p4.tape; rw [← hw2] at this; exact this
            · have := p4.output; rw [← hw2] at this; exact this
          have q4' : Ext0 C.pin (asgG g as sh.bl.length) (sh.mem x) w g1 m1' w1 := q4
          exact q4'.trans h1
        have hIV : Inv g3 (outX X g m1 as) m3 (w3.putObj l (.loop (recOf rt fn tmps D .ready none))) := p3.inv.putX hXl1 _
        -- an end with a tag
        have fin : ∀ (tag : Int) (jump : Option Code), ro.get [(0, .d (.int .i64) tag)] m3 = some y → TagOK tag (if jump.isNone then .ready else .done) jump → jump.isNone = eqI tag 0 →
            ∃ v w', (Instr.endRound l jump).run P w3 = .ok v w' ∧ ∃ v' m' g' cv kd t st pe, Ending.returned v = .returned (.bool (eqI t 0)) ∧ k v' m' g'.n = some r ∧ v' = .d (.int kd) t ∧
              Inv g' X m' w' ∧ RV g' w' (okB X g' m') v' cv ∧ Ext g m w g' m' (w'.putObj l (.loop (recOf rt fn tmps D .ready none))) ∧ w'.heap[l]? = some (.loop (recOf rt fn tmps D st pe)) ∧ TagOK t st pe := by
          intro tag jump hget htag hj
          refine ⟨_, _, run_endRound jump hrec3, ?_⟩
          unfold Shape.get at hget
          split at hget
          · rename_i y' as3 hy'
            cases hget
            unfold Shape.getA at hy'
            obtain ⟨hI4, hx4⟩ := Inv.frzL (ro.fzs [(0, .d (.int .i64) tag)] m3) hIV
            have hfrT : FrOK g3 (w3.putObj l (.loop (recOf rt fn tmps D .ready none))) (okB (outX X g m1 as) g3 (frzL (ro.fzs [(0, .d (.int .i64) tag)] m3) m3)) [(0, .d (.int .i64) tag)] #[Value.int .i64 tag] := by
              intro t
              rw [fget_cons]
              split
              · rename_i e; subst e; exact int_mk _ _
              · exact RV_dead _ _ _ _
            obtain ⟨g4, n4, i4, x4, r4⟩ := leave_ok hI1 hT hD hI4 hpsh hpro (hV.trans hx4.to0) hfrT hy' hro
            rw [hro] at hrun
            obtain ⟨t, ht⟩ := hv y
            have r0 := r4 0
            rw [ht, fget_cons, if_pos rfl] at r0
            have htt : tag = t := by have := int_get r0; cases this; rfl
            subst htt
            have hout : (outAV (ro.fr y)).ren (rho C.pin as g.n) = .d (.int .i64) tag := by rw [ht]; rfl
            have hback : (w3.putObj l (.loop { recOf rt fn tmps D .ready none with state := if jump.isNone then .ready else .done, pending := jump })).putObj l (.loop (recOf rt fn tmps D .ready none)) = w3.putObj l (.loop (recOf rt fn tmps D .ready none)) := put_put _ _ _ _
            have hfwd : w3.putObj l (.loop { recOf rt fn tmps D .ready none with state := if jump.isNone then .ready else .done, pending := jump }) = (w3.putObj l (.loop (recOf rt fn tmps D .ready none))).putObj l (.loop { recOf rt fn tmps D .ready none with state := if jump.isNone then .ready else .done, pending := jump }) := (put_put _ _ _ _).symm
            refine ⟨.d (.int .i64) tag, _, g4, .int .i64 tag, .i64, tag, (if jump.isNone then .ready else .done), jump, by rw [hj], by rw [n4, ← hout]; exact hrun, rfl, ?_, int_mk _ _, ?_, ?_, htag⟩
            · rw [show ({ recOf rt fn tmps D .ready none with state := LoopState.busy } : Loop) = { recOf rt fn tmps D .ready none with state := .busy } from rfl]
              exact hfwd ▸ i4.putX hXl _
            · rw [hback]; exact hx1.trans x4
            · exact World.putObj_heap_same hlt3
          · cases hget
        cases e'' with
        | normal => cases p1; exact fin 0 none p2 (.inl ⟨rfl, rfl, rfl⟩) rfl
        | ret => cases p1; exact fin 1 (some .ret) p2 (.inr (.inl ⟨rfl, rfl, rfl⟩)) rfl
        | exit i => cases p1; exact fin (natI (i + 2)) (some (.exit i)) p2 (.inr (.inr ⟨i, by unfold natI; omega, rfl, rfl⟩)) (by show false = _; unfold eqI natI; symm; simp; omega)
        | goto i => cases p2
        | panic v => cases p2
      | exit i => cases q2
      | goto i => cases q2
      | ret => cases q2
      | panic v => cases q2
  · cases hrun
end
end Go.Proofs.Ytkeolcgggondnaa.VX
