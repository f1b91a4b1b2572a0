/- Contracts of functions, and walks of laws, written by this session's own program (wip/tools/xprint.py, a driver round the kit's print) out of Lean's print of the loaded program. Lean checks them. -/
import Derived.Test.YtipmoncamnafbaaX0
import Derived.Test.YtipmoncamnafbaaX8
import Derived.Test.YtipmoncamnafbaaX13
namespace Go.Proofs.Ytipmoncamnafbaa.X
open Go.RowKit Go.Proofs.YtipmoncamnafbaaW.PrintWords Go.Proofs.YtipmoncamnafbaaW.PrintLast Go.Proofs.YtipmoncamnafbaaW.PrintMore
attribute [local go_sem] max2_int min2_int max_two min_two max_three min_three max_four min_four   -- for this text's walks alone
set_option linter.unusedVariables false
set_option linter.unusedSimpArgs false

/-! ### plaitlaw03_VarintEvery: function 10 -/
mutual
def plaitlaw03_VarintEvery.l0 : Nat → List Int → ByteArray → ByteArray → Int → List Int → Int → Bool → List Int → Int → Int → Option (Bool)
  | 0, _, _, _, _, _, _, _, _, _, _ => none
  | k + 1, x0, x1, x5, x6, x7, x8, x9, x31, x32, x33 => if x33 < x32 then (if 0 ≤ x33 then (if x33 < (x31.length : Int) then (if x9 = true then ((plaitref03_Small.f (rd x31 x33)).bind fun t285 => (plaitlaw03_VarintEvery.l0 k x0 x1 x5 x6 x7 x8 t285 x31 x32 (wrap64 (x33 + 1)))) else (plaitlaw03_VarintEvery.l0 k x0 x1 x5 x6 x7 x8 false x31 x32 (wrap64 (x33 + 1)))) else (none)) else (none)) else (if x9 = true then (if x6 = 0 then ((plaitref03_All.f k x0).bind fun t286 => (plaitlaw03_VarintEvery.j1 k x1 x7 x8 (x5.toList != t286.toList))) else (plaitlaw03_VarintEvery.j1 k x1 x7 x8 true)) else (if x6 = 1 then (plaitlaw03_VarintEvery.j2 k x1 x7 x8 (x5.toList != ([] : List UInt8))) else (plaitlaw03_VarintEvery.j2 k x1 x7 x8 true)))
def plaitlaw03_VarintEvery.j1 : Nat → ByteArray → List Int → Int → Bool → Option (Bool)
  | 0, _, _, _, _ => none
  | k + 1, x1, x7, x8, x58 => if x58 = true then (some false) else ((plaitref03_Every.f k x1).bind fun bt287 => ((plaitlaw03_alive.f k).bind fun t291 => (if t291 = true then (if x8 = bt287.2 then ((plaitref01_Rows.f k x7 bt287.1).bind fun t292 => (some t292)) else (some false)) else (some false))))
def plaitlaw03_VarintEvery.j2 : Nat → ByteArray → List Int → Int → Bool → Option (Bool)
  | 0, _, _, _, _ => none
  | k + 1, x1, x7, x8, x50 => if x50 = true then (some false) else ((plaitref03_Every.f k x1).bind fun bt293 => ((plaitlaw03_alive.f k).bind fun t297 => (if t297 = true then (if x8 = bt293.2 then ((plaitref01_Rows.f k x7 bt293.1).bind fun t298 => (some t298)) else (some false)) else (some false))))
end
def plaitlaw03_VarintEvery.f (k : Nat) (l0 : List Int) (a1 : ByteArray) : Option (Bool) := if 0 ≤ (mn (l0.length : Int) 60) then (if (mn (l0.length : Int) 60) ≤ (l0.length : Int) then ((plaitlaw03_few.f a1).bind fun t277 => ((varint_All.f k (l0.take ((mn (l0.length : Int) 60) : Int).toNat)).bind fun bt278 => ((varint_Every.f k t277).bind fun bt280 => (plaitlaw03_VarintEvery.l0 k (l0.take ((mn (l0.length : Int) 60) : Int).toNat) t277 bt278.1 bt278.2 bt280.1 bt280.2 true (l0.take ((mn (l0.length : Int) 60) : Int).toNat) ((l0.take ((mn (l0.length : Int) 60) : Int).toNat).length : Int) 0)))) else (none)) else (none)
theorem plaitlaw03_VarintEvery.mono_l : ∀ k, (∀ y0 y1 y2 y3 y4 y5 y6 y7 y8 y9, LeO (plaitlaw03_VarintEvery.l0 k y0 y1 y2 y3 y4 y5 y6 y7 y8 y9) (plaitlaw03_VarintEvery.l0 (k + 1) y0 y1 y2 y3 y4 y5 y6 y7 y8 y9)) ∧ (∀ y0 y1 y2 y3, LeO (plaitlaw03_VarintEvery.j1 k y0 y1 y2 y3) (plaitlaw03_VarintEvery.j1 (k + 1) y0 y1 y2 y3)) ∧ (∀ y0 y1 y2 y3, LeO (plaitlaw03_VarintEvery.j2 k y0 y1 y2 y3) (plaitlaw03_VarintEvery.j2 (k + 1) y0 y1 y2 y3))
  | 0 => ⟨fun _ _ _ _ _ _ _ _ _ _ r h => by simp [plaitlaw03_VarintEvery.l0] at h, fun _ _ _ _ r h => by simp [plaitlaw03_VarintEvery.j1] at h, fun _ _ _ _ r h => by simp [plaitlaw03_VarintEvery.j2] at h⟩
  | k + 1 => by
    obtain ⟨ih0, ih1, ih2⟩ := plaitlaw03_VarintEvery.mono_l k
    refine ⟨?_, ?_, ?_⟩
    · intro y0 y1 y2 y3 y4 y5 y6 y7 y8 y9
      unfold plaitlaw03_VarintEvery.l0
      repeat' first
      | (with_reducible exact ih0 _ _ _ _ _ _ _ _ _ _)
      | (with_reducible exact ih1 _ _ _ _)
      | (with_reducible exact ih2 _ _ _ _)
      | (with_reducible exact plaitlaw03_alive.mono _)
      | (with_reducible exact plaitref01_Rows.mono _ _ _)
      | (with_reducible exact plaitref03_All.mono _ _)
      | (with_reducible exact plaitref03_Every.mono _ _)
      | (with_reducible exact varint_All.mono _ _)
      | (with_reducible exact varint_Every.mono _ _)
      | (with_reducible exact LeO.refl _)
      | (with_reducible exact LeO.none _)
      | (with_reducible refine LeO.ite ?_ ?_)
      | (with_reducible refine LeO.bind ?_ (fun _ => ?_))
      | exact ih0 _ _ _ _ _ _ _ _ _ _
      | exact ih1 _ _ _ _
      | exact ih2 _ _ _ _
      | exact plaitlaw03_alive.mono _
      | exact plaitref01_Rows.mono _ _ _
      | exact plaitref03_All.mono _ _
      | exact plaitref03_Every.mono _ _
      | exact varint_All.mono _ _
      | exact varint_Every.mono _ _
      | exact LeO.none _
      | refine LeO.ite ?_ ?_
      | refine LeO.bind ?_ (fun _ => ?_)
    · intro y0 y1 y2 y3
      unfold plaitlaw03_VarintEvery.j1
      repeat' first
      | (with_reducible exact ih0 _ _ _ _ _ _ _ _ _ _)
      | (with_reducible exact ih1 _ _ _ _)
      | (with_reducible exact ih2 _ _ _ _)
      | (with_reducible exact plaitlaw03_alive.mono _)
      | (with_reducible exact plaitref01_Rows.mono _ _ _)
      | (with_reducible exact plaitref03_All.mono _ _)
      | (with_reducible exact plaitref03_Every.mono _ _)
      | (with_reducible exact varint_All.mono _ _)
      | (with_reducible exact varint_Every.mono _ _)
      | (with_reducible exact LeO.refl _)
      | (with_reducible exact LeO.none _)
      | (with_reducible refine LeO.ite ?_ ?_)
      | (with_reducible refine LeO.bind ?_ (fun _ => ?_))
      | exact ih0 _ _ _ _ _ _ _ _ _ _
      | exact ih1 _ _ _ _
      | exact ih2 _ _ _ _
      | exact plaitlaw03_alive.mono _
      | exact plaitref01_Rows.mono _ _ _
      | exact plaitref03_All.mono _ _
      | exact plaitref03_Every.mono _ _
      | exact varint_All.mono _ _
      | exact varint_Every.mono _ _
      | exact LeO.none _
      | refine LeO.ite ?_ ?_
      | refine LeO.bind ?_ (fun _ => ?_)
    · intro y0 y1 y2 y3
      unfold plaitlaw03_VarintEvery.j2
      repeat' first
      | (with_reducible exact ih0 _ _ _ _ _ _ _ _ _ _)
      | (with_reducible exact ih1 _ _ _ _)
      | (with_reducible exact ih2 _ _ _ _)
      | (with_reducible exact plaitlaw03_alive.mono _)
      | (with_reducible exact plaitref01_Rows.mono _ _ _)
      | (with_reducible exact plaitref03_All.mono _ _)
      | (with_reducible exact plaitref03_Every.mono _ _)
      | (with_reducible exact varint_All.mono _ _)
      | (with_reducible exact varint_Every.mono _ _)
      | (with_reducible exact LeO.refl _)
      | (with_reducible exact LeO.none _)
      | (with_reducible refine LeO.ite ?_ ?_)
      | (with_reducible refine LeO.bind ?_ (fun _ => ?_))
      | exact ih0 _ _ _ _ _ _ _ _ _ _
      | exact ih1 _ _ _ _
      | exact ih2 _ _ _ _
      | exact plaitlaw03_alive.mono _
      | exact plaitref01_Rows.mono _ _ _
      | exact plaitref03_All.mono _ _
      | exact plaitref03_Every.mono _ _
      | exact varint_All.mono _ _
      | exact varint_Every.mono _ _
      | exact LeO.none _
      | refine LeO.ite ?_ ?_
      | refine LeO.bind ?_ (fun _ => ?_)
theorem plaitlaw03_VarintEvery.mono : ∀ a0 a1 k, LeO (plaitlaw03_VarintEvery.f k a0 a1) (plaitlaw03_VarintEvery.f (k + 1) a0 a1) := by
  intro a0 a1 k
  obtain ⟨ih0, ih1, ih2⟩ := plaitlaw03_VarintEvery.mono_l k
  unfold plaitlaw03_VarintEvery.f
  repeat' first
      | (with_reducible exact ih0 _ _ _ _ _ _ _ _ _ _)
      | (with_reducible exact ih1 _ _ _ _)
      | (with_reducible exact ih2 _ _ _ _)
      | (with_reducible exact plaitlaw03_alive.mono _)
      | (with_reducible exact plaitref01_Rows.mono _ _ _)
      | (with_reducible exact plaitref03_All.mono _ _)
      | (with_reducible exact plaitref03_Every.mono _ _)
      | (with_reducible exact varint_All.mono _ _)
      | (with_reducible exact varint_Every.mono _ _)
      | (with_reducible exact LeO.refl _)
      | (with_reducible exact LeO.none _)
      | (with_reducible refine LeO.ite ?_ ?_)
      | (with_reducible refine LeO.bind ?_ (fun _ => ?_))
      | exact ih0 _ _ _ _ _ _ _ _ _ _
      | exact ih1 _ _ _ _
      | exact ih2 _ _ _ _
      | exact plaitlaw03_alive.mono _
      | exact plaitref01_Rows.mono _ _ _
      | exact plaitref03_All.mono _ _
      | exact plaitref03_Every.mono _ _
      | exact varint_All.mono _ _
      | exact varint_Every.mono _ _
      | exact LeO.none _
      | refine LeO.ite ?_ ?_
      | refine LeO.bind ?_ (fun _ => ?_)
def plaitlaw03_VarintEvery.T1 : Bool × List (List Nat × List Nat) := (true, [([], []), ([], []), ([1], [1]), ([2], [2]), ([0, 3], [0, 3]), ([], []), ([5], [5]), ([4, 6, 0, 1, 2, 3, 4], [0, 1, 4]), ([6, 7, 0, 1, 2, 3, 4, 5, 6, 7], [5, 6])])
def plaitlaw03_VarintEvery.B1 : List Nat := [0, 0, 2, 6, 15, 0, 32, 127, 255]
theorem plaitlaw03_VarintEvery.tab1 : rtab .any (opsOf Try.f10 1) = plaitlaw03_VarintEvery.T1 := by kernel_rfl
theorem plaitlaw03_VarintEvery.bits1 : waitsOk plaitlaw03_VarintEvery.T1.2 plaitlaw03_VarintEvery.B1 = true := by kernel_rfl
set_option maxHeartbeats 8000000 in
set_option maxRecDepth 100000 in
theorem plaitlaw03_VarintEvery.calls (k : Nat) (A0 : Option Addr) (c0 : Nat) (l0 : List Int) (a1 : ByteArray) (r : Bool) (w : World) (hr0 : Kd.C (Kd.int .i64) w A0 l0.length l0) (hc0 : l0.length ≤ c0) (h : plaitlaw03_VarintEvery.f k l0 a1 = some r) (hr_ : Aside0 (r = true)) :
    Calls Try.prog 10 #[.slice A0 l0.length c0, .string a1] w fun e w' => e = .returned (.bool r) ∧ Below w.heap.size w w' := by
  have HR0 := Aside0.mk hr0
  have HC0 := Aside0.mk hc0
  clear hr0 hc0
  have HB := Aside0.mk (Below.refl w.heap.size w)
  have H : (if 0 ≤ (mn (l0.length : Int) 60) then (if (mn (l0.length : Int) 60) ≤ (l0.length : Int) then ((plaitlaw03_few.f a1).bind fun t277 => ((varint_All.f k (l0.take ((mn (l0.length : Int) 60) : Int).toNat)).bind fun bt278 => ((varint_Every.f k t277).bind fun bt280 => (plaitlaw03_VarintEvery.l0 k (l0.take ((mn (l0.length : Int) 60) : Int).toNat) t277 bt278.1 bt278.2 bt280.1 bt280.2 true (l0.take ((mn (l0.length : Int) 60) : Int).toNat) ((l0.take ((mn (l0.length : Int) 60) : Int).toNat).length : Int) 0)))) else (none)) else (none)) = some r := h
  clear h
  obtain ⟨ji3, hji3⟩ : ∃ j_ : Int, (mn (l0.length : Int) 60) = j_ := ⟨_, rfl⟩
  replace H : (if 0 ≤ (ji3) then (if (ji3) ≤ (l0.length : Int) then ((plaitlaw03_few.f a1).bind fun t277 => ((varint_All.f k (l0.take ((ji3) : Int).toNat)).bind fun bt278 => ((varint_Every.f k t277).bind fun bt280 => (plaitlaw03_VarintEvery.l0 k (l0.take ((ji3) : Int).toNat) t277 bt278.1 bt278.2 bt280.1 bt280.2 true (l0.take ((ji3) : Int).toNat) ((l0.take ((ji3) : Int).toNat).length : Int) 0)))) else (none)) else (none)) = some r := by first | (rw [hji3] at H; exact H) | (simp only [hji3] at H ⊢; exact H)
  (try (have hji3h : ji3 ≤ 60 := by (rw [← hji3]; unfold mn; (repeat' split) <;> omega)))
  (try (have hji3g : ji3 ≤ 64 := by omega))
  (try (have hji3l : 0 ≤ ji3 := by (rw [← hji3]; unfold mn; (repeat' split) <;> omega)))
  (try (have hji3m : 0 ≤ ji3 := by omega))
  have hji3_ : (if 60 < (l0.length : Int) then 60 else (l0.length : Int)) = ji3 := hji3
  by_cases c4 : 0 ≤ (ji3)
  · rw [if_pos c4] at H
    have c4b0 := eq_true c4
    have c4b1 : decide (0 ≤ (ji3)) = true := decide_eq_true c4
    clear c4
    by_cases c5 : (ji3) ≤ (l0.length : Int)
    · rw [if_pos c5] at H
      have c5b0 := eq_true c5
      have c5b1 : decide ((ji3) ≤ (l0.length : Int)) = true := decide_eq_true c5
      clear c5
      replace H := Option.bind_eq_some_iff.mp H
      obtain ⟨t277, A60, H⟩ := H
      replace H : ((varint_All.f k (l0.take ((ji3) : Int).toNat)).bind fun bt278 => ((varint_Every.f k t277).bind fun bt280 => (plaitlaw03_VarintEvery.l0 k (l0.take ((ji3) : Int).toNat) t277 bt278.1 bt278.2 bt280.1 bt280.2 true (l0.take ((ji3) : Int).toNat) ((l0.take ((ji3) : Int).toNat).length : Int) 0))) = some r := H
      have A6 := Aside0.mk A60
      clear A60
      replace H := Option.bind_eq_some_iff.mp H
      obtain ⟨⟨t278, t279⟩, A70, H⟩ := H
      replace H : ((varint_Every.f k t277).bind fun bt280 => (plaitlaw03_VarintEvery.l0 k (l0.take ((ji3) : Int).toNat) t277 t278 t279 bt280.1 bt280.2 true (l0.take ((ji3) : Int).toNat) ((l0.take ((ji3) : Int).toNat).length : Int) 0)) = some r := H
      have A7 := Aside0.mk A70
      clear A70
      replace H := Option.bind_eq_some_iff.mp H
      obtain ⟨⟨t280, t281⟩, A80, H⟩ := H
      replace H : (plaitlaw03_VarintEvery.l0 k (l0.take ((ji3) : Int).toNat) t277 t278 t279 t280 t281 true (l0.take ((ji3) : Int).toNat) ((l0.take ((ji3) : Int).toNat).length : Int) 0) = some r := H
      have A8 := Aside0.mk A80
      clear A80
      have H' := Aside0.mk H
      clear H
      go_enter Try.func10, Try.ntmps10
      try go_wp2
      have n0_ := Aside0.mk (below_drew1 HB.out)
      clear HB
      have HB := n0_
      clear n0_
      obtain ⟨i010, hi010, _, hsz10, _⟩ := info_parts info3
      obtain ⟨hcut10, hA10, hC10⟩ := print_take_of (P := Try.prog) (Value.int .i64) 0 28 3 .i64 Try.underlying28 hi010 hsz10 A0 c0 l0 (ji3) (of_decide_eq_true (by first | (with_reducible assumption) | assumption)) (of_decide_eq_true (by first | (with_reducible assumption) | assumption)) HC0.out
      have HR276 := Aside0.mk (Kd.C_of_reads (h1 := fun _ => rfl) (hA10 _ (Kd.reads_of_C HR0.out)))
      have HC276 := Aside0.mk hC10
      clear hA10 hC10 hi010 hsz10
      refine start_ (n := 9) (S := fun w' => True) (ds := []) #[false, false, false, false, false, false, false, false, false] (by kernel_rfl) rfl rfl trivial (fun hHeld => ?_); refine with_tabW plaitlaw03_VarintEvery.tab1 plaitlaw03_VarintEvery.bits1 (fun HT_ HW_ => ?_)
      generalize w.drew = w9 at HB HR276 hHeld ⊢
      refine pure_ (i := 0) (N := some 14) (v := ?_) (a' := ?_) #[true, false, false, false, false, false, false, false, false] rfl rfl (any_of HT_.out (by kernel_rfl)) (fun _ _ _ h => h) (Or.inl ⟨by rfl, ?_⟩) ?_ ?_
      rotate_left
      · intro w'
        go_simp
        with_reducible rfl
      rotate_left
      · simp only [Act.put, List.setIfInBounds_toArray, List.set_cons_zero, List.set_cons_succ, i64_w, i32_w]
        rfl
      refine pure_ (i := 1) (N := some 15) (v := ?_) (a' := ?_) #[true, true, false, false, false, false, false, false, false] rfl rfl (any_of HT_.out (by kernel_rfl)) (fun _ _ _ h => h) (Or.inl ⟨by rfl, ?_⟩) ?_ ?_
      rotate_left
      · intro w'
        go_simp
        with_reducible rfl
      rotate_left
      · simp only [Act.put, List.setIfInBounds_toArray, List.set_cons_zero, List.set_cons_succ, i64_w, i32_w]
        rfl
      refine pure_ (i := 2) (N := some 16) (v := ?_) (a' := ?_) #[true, true, true, false, false, false, false, false, false] rfl rfl (any_of HT_.out (by kernel_rfl)) (fun _ _ _ h => h) (Or.inl ⟨by rfl, ?_⟩) ?_ ?_
      rotate_left
      · intro w'
        go_simp
        with_reducible rfl
      rotate_left
      · simp only [Act.put, List.setIfInBounds_toArray, List.set_cons_zero, List.set_cons_succ, i64_w, i32_w]
        rfl
      refine pure_ (i := 3) (N := some 17) (v := ?_) (a' := ?_) #[true, true, true, true, false, false, false, false, false] rfl rfl (any_of HT_.out (by kernel_rfl)) (fun _ _ _ h => h) (Or.inl ⟨by rfl, ?_⟩) ?_ ?_
      rotate_left
      · intro w'
        go_simp
        with_reducible rfl
      rotate_left
      · simp only [Act.put, List.setIfInBounds_toArray, List.set_cons_zero, List.set_cons_succ, i64_w, i32_w]
        rfl
      refine pure_ (i := 4) (N := some 18) (v := ?_) (a' := ?_) #[true, true, true, true, true, false, false, false, false] rfl rfl (any_of HT_.out (by kernel_rfl)) (fun _ _ _ h => h) (Or.inl ⟨by rfl, ?_⟩) ?_ ?_
      rotate_left
      · intro w'
        go_simp
        with_reducible rfl
      rotate_left
      · simp only [Act.put, List.setIfInBounds_toArray, List.set_cons_zero, List.set_cons_succ, i64_w, i32_w]
        rfl
      refine pure_ (i := 5) (N := some 19) (v := ?_) (a' := ?_) #[true, true, true, true, true, true, false, false, false] rfl rfl (any_of HT_.out (by kernel_rfl)) (fun _ _ _ h => h) (Or.inl ⟨by rfl, ?_⟩) ?_ ?_
      rotate_left
      · intro w'
        go_simp
        with_reducible rfl
      rotate_left
      · simp only [Act.put, List.setIfInBounds_toArray, List.set_cons_zero, List.set_cons_succ, i64_w, i32_w]
        rfl
      refine one_ (i := 6) (N := some 20) #[true, true, true, true, true, true, true, false, false] rfl rfl (one_of HT_.out (by kernel_rfl)) (by decide) (fun K hK => ?_)
      refine goes_ Try.func25 (by kernel_rfl) rfl #[.string a1] (by rfl) rfl rfl (by (try simp only [List.map_toArray, List.map_cons, List.map_nil]); first | done | rfl | (simp only [List.length_drop, List.length_take]; rfl)) ?_
      with_reducible refine (plaitlaw03_few.calls a1 t277 _ A6.out).mono ?_
      rintro e w11 ⟨rfl, hb⟩
      refine ⟨_, rfl, ?_⟩
      have n0_ := Aside0.mk (below_step (by repeat (first | (with_reducible first | exact HB.out | apply below_alloc | apply pw_below_drewN | apply below_drew1) | exact HB.out)) hb)
      clear HB
      have HB := n0_
      clear n0_
      (try clear hb)
      (try clear hb2)
      (try clear hk)
      (try clear hi)
      refine hK.out _ _ trivial (fun hHeld => ?_)
      clear hK K
      refine norm_ (a' := ?_) ?_ ?_
      rotate_left
      · show Act.put _ (some 20) _ = _
        simp only [Act.put, List.setIfInBounds_toArray, List.set_cons_zero, List.set_cons_succ, i64_w, i32_w]
        rfl
      refine pure_ (i := 7) (N := some 0) (v := ?_) (a' := ?_) #[true, true, true, true, true, true, true, true, false] rfl rfl (any_of HT_.out (by kernel_rfl)) (fun _ _ _ h => h) (Or.inl ⟨by rfl, ?_⟩) ?_ ?_
      rotate_left
      · intro w'
        go_simp
        with_reducible rfl
      rotate_left
      · simp only [Act.put, List.setIfInBounds_toArray, List.set_cons_zero, List.set_cons_succ, i64_w, i32_w]
        rfl
      refine pure_ (i := 8) (N := some 1) (v := ?_) (a' := ?_) #[true, true, true, true, true, true, true, true, true] rfl rfl (any_of HT_.out (by kernel_rfl)) (fun _ _ _ h => h) (Or.inl ⟨by rfl, ?_⟩) ?_ ?_
      rotate_left
      · intro w'
        go_simp
        with_reducible rfl
      rotate_left
      · simp only [Act.put, List.setIfInBounds_toArray, List.set_cons_zero, List.set_cons_succ, i64_w, i32_w]
        rfl
      refine done_ (done_of HT_.out (by kernel_rfl)) ?_
      try go_wp2_with (first | ((with_reducible refine gate_callee (f := 40) rfl ?_); refine goesL_ (some 23) rfl rfl Try.func40 (by kernel_rfl) rfl #[.slice A0 (l0.take ((ji3) : Int).toNat).length c0] rfl (by (try simp only [List.map_toArray, List.map_cons, List.map_nil]); first | done | (rw [show (l0.take ((ji3) : Int).toNat).length = (ji3).toNat from (by rw [List.length_take]; have h_ : ((ji3) : Int) ≤ (l0.length : Int) := of_decide_eq_true (by first | (with_reducible assumption) | assumption); omega)] <;> rfl) | (simp only [hji3]; rfl) | rfl | (simp only [List.length_drop, List.length_take]; rfl)) ?_; (with_reducible refine (varint_All.calls k _ _ (l0.take ((ji3) : Int).toNat) t278 t279 _ ?side1 ?side2 A7.out).mono ?_); (case side1 => repeat (first | exact (Kd.C_below HR276.out HB.out) | (with_reducible refine Kd.C_alloc ?_ _) | (with_reducible refine Kd.C_drewN ?_ _) | (with_reducible refine Kd.C_drew ?_))); (case side2 => exact HC276.out); rintro e w12 ⟨rfl, hb⟩; refine ⟨_, rfl, ?_⟩; have n0_ := Aside0.mk (below_step (by repeat (first | (with_reducible first | exact HB.out | apply below_alloc | apply pw_below_drewN | apply below_drew1) | exact HB.out)) hb); clear HB; have HB := n0_; clear n0_; (try clear hb); (try clear hb2); (try clear hk); (try clear hi)) | ((with_reducible refine gate_callee (f := 41) rfl ?_); refine goesL_ (some 28) rfl rfl Try.func41 (by kernel_rfl) rfl #[.string t277] rfl (by (try simp only [List.map_toArray, List.map_cons, List.map_nil]); first | done | rfl | (simp only [List.length_drop, List.length_take]; rfl)) ?_; (with_reducible refine (varint_Every.calls k t277 t280 t281 _ A8.out).mono ?_); rintro e w13 ⟨v282, rfl, ho0, hb⟩; refine ⟨_, rfl, ?_⟩; have n0_ := Aside0.mk (Kd.R_lower ho0 (below_size (by repeat (first | (with_reducible first | exact HB.out | apply below_alloc | apply pw_below_drewN | apply below_drew1) | exact HB.out)))); have n1_ := Aside0.mk (below_step (by repeat (first | (with_reducible first | exact HB.out | apply below_alloc | apply pw_below_drewN | apply below_drew1) | exact HB.out)) hb); clear HB; have HO283 := n0_; have HB := n1_; clear n0_ n1_; (try clear hb); (try clear hb2); (try clear hk); (try clear hi); (try clear ho0)))
      go_loopg [9, 33] k (fun kq v9 v33 w' => ∃ (x9_1 : Bool) (x33_1 : Int), v9 = .bool x9_1 ∧ v33 = .int .i64 x33_1 ∧ Aside0 (plaitlaw03_VarintEvery.l0 kq (l0.take ((ji3) : Int).toNat) t277 t278 t279 t280 t281 x9_1 (l0.take ((ji3) : Int).toNat) ((l0.take ((ji3) : Int).toNat).length : Int) x33_1 = some r) ∧ Aside0 (kq ≤ k) ∧ Aside0 (Kd.R (Kd.int .i64) 3 w' w.heap.size (fun _ => True) v282 t280) ∧ Aside0 (Below w.heap.size w w'))
      case atStart => exact ⟨(true), (0), (by first | rfl | (simp; done) | (simp [*]; done)), (by first | rfl | (simp; done) | (simp [*]; done)), H', ⟨Nat.le_refl _⟩, ⟨by (with_reducible repeat (first | apply Kd.R_alloc | apply Kd.R_drewN | apply Kd.R_drew)); exact HO283.out⟩, ⟨by repeat (first | (with_reducible first | exact HB.out | apply below_alloc | apply pw_below_drewN | apply below_drew1) | exact HB.out)⟩⟩
      case round =>
        clear H'
        try clear c1
        try clear c2
        try clear p2
        try clear c4
        try clear c4b0
        try clear c4b1
        try clear c5
        try clear c5b0
        try clear c5b1
        try clear c10
        obtain ⟨x9_1, x33_1, rfl, rfl, HA, HK1, HO_7, HB⟩ := hrel
        cases gk with
        | zero => exact absurd HA.out (by simp [plaitlaw03_VarintEvery.l0])
        | succ k1 =>
          have H := HA.out
          clear HA
          simp only [plaitlaw03_VarintEvery.l0] at H
          by_cases c14 : x33_1 < ((l0.take ((ji3) : Int).toNat).length : Int)
          · rw [if_pos c14] at H
            have c14b0 : decide (x33_1 < ((l0.take ((ji3) : Int).toNat).length : Int)) = true := decide_eq_true c14
            (try (have c14b0m : decide (x33_1 < max ji3 0) = true := by have e_ := hji3_; have e2_ : ((l0.take ((ji3) : Int).toNat).length : Int) = max ji3 0 := (by (rw [List.length_take]; split at e_ <;> omega)); rw [← e2_]; exact c14b0))
            clear c14
            by_cases c15 : 0 ≤ x33_1
            · rw [if_pos c15] at H
              have c15b0 : decide (0 ≤ x33_1) = true := decide_eq_true c15
              clear c15
              by_cases c16 : x33_1 < ((l0.take ((ji3) : Int).toNat).length : Int)
              · rw [if_pos c16] at H
                have c16b0 : decide (x33_1 < ((l0.take ((ji3) : Int).toNat).length : Int)) = true := decide_eq_true c16
                (try (have c16b0m : decide (x33_1 < max ji3 0) = true := by have e_ := hji3_; have e2_ : ((l0.take ((ji3) : Int).toNat).length : Int) = max ji3 0 := (by (rw [List.length_take]; split at e_ <;> omega)); rw [← e2_]; exact c16b0))
                clear c16
                by_cases c17 : x9_1 = true
                · subst c17
                  have H1 : ((plaitref03_Small.f (rd (l0.take ((ji3) : Int).toNat) x33_1)).bind fun t285 => (plaitlaw03_VarintEvery.l0 k1 (l0.take ((ji3) : Int).toNat) t277 t278 t279 t280 t281 t285 (l0.take ((ji3) : Int).toNat) ((l0.take ((ji3) : Int).toNat).length : Int) (wrap64 (x33_1 + 1)))) = some r := by rw [if_pos rfl] at H; exact H
                  clear H
                  have H := H1
                  clear H1
                  replace H := Option.bind_eq_some_iff.mp H
                  obtain ⟨t285, A180, H⟩ := H
                  replace H : (plaitlaw03_VarintEvery.l0 k1 (l0.take ((ji3) : Int).toNat) t277 t278 t279 t280 t281 t285 (l0.take ((ji3) : Int).toNat) ((l0.take ((ji3) : Int).toNat).length : Int) (wrap64 (x33_1 + 1))) = some r := H
                  have A18 := Aside0.mk A180
                  clear A180
                  have H' := Aside0.mk H
                  clear H
                  have p284 : 0 ≤ (x33_1 : Int) := of_decide_eq_true (by first | (with_reducible assumption) | assumption)
                  have q284 : x33_1 < ((l0.take ((ji3) : Int).toNat).length : Int) := of_decide_eq_true (by first | (with_reducible assumption) | assumption)
                  (try (have q284m : (x33_1 < max ji3 0) = True := by have e_ := hji3_; have e2_ : ((l0.take ((ji3) : Int).toNat).length : Int) = max ji3 0 := (by (rw [List.length_take]; split at e_ <;> omega)); rw [← e2_]; exact eq_true q284))
                  obtain ⟨ad284, e284, hx284_0⟩ := Kd.at_int HR276.out x33_1 p284 q284
                  cases e284
                  replace hx284_0 := (HB.out.cell (World.block_lt_of_cell? w _ hx284_0)).trans hx284_0
                  replace p284 := eq_true p284
                  replace q284 := eq_true q284
                  go_wp2_with (first | (go_at_call 29; (with_reducible refine (plaitref03_Small.calls (rd (l0.take ((ji3) : Int).toNat) x33_1) t285 _ A18.out).mono ?_); rintro e w' ⟨rfl, ⟨nd, rfl⟩⟩))
                  go_roundg k1
                  case measure => have := HK1.out; omega
                  case rel => exact ⟨(t285), (wrap64 (x33_1 + 1)), (by first | rfl | (simp; done) | (simp [*]; done)), (by first | rfl | (simp; done) | (simp [*]; done)), H', ⟨by have := HK1.out; omega⟩, ⟨by (with_reducible repeat (first | apply Kd.R_alloc | apply Kd.R_drewN | apply Kd.R_drew)); exact HO_7.out⟩, ⟨by repeat (first | (with_reducible first | exact HB.out | apply below_alloc | apply pw_below_drewN | apply below_drew1) | exact HB.out)⟩⟩
                · replace c17 := Bool.eq_false_iff.mpr c17
                  subst c17
                  have H1 : (plaitlaw03_VarintEvery.l0 k1 (l0.take ((ji3) : Int).toNat) t277 t278 t279 t280 t281 false (l0.take ((ji3) : Int).toNat) ((l0.take ((ji3) : Int).toNat).length : Int) (wrap64 (x33_1 + 1))) = some r := by rw [if_neg (show ¬ (false = true) by decide)] at H; exact H
                  clear H
                  have H := H1
                  clear H1
                  have H' := Aside0.mk H
                  clear H
                  have p284 : 0 ≤ (x33_1 : Int) := of_decide_eq_true (by first | (with_reducible assumption) | assumption)
                  have q284 : x33_1 < ((l0.take ((ji3) : Int).toNat).length : Int) := of_decide_eq_true (by first | (with_reducible assumption) | assumption)
                  (try (have q284m : (x33_1 < max ji3 0) = True := by have e_ := hji3_; have e2_ : ((l0.take ((ji3) : Int).toNat).length : Int) = max ji3 0 := (by (rw [List.length_take]; split at e_ <;> omega)); rw [← e2_]; exact eq_true q284))
                  obtain ⟨ad284, e284, hx284_0⟩ := Kd.at_int HR276.out x33_1 p284 q284
                  cases e284
                  replace hx284_0 := (HB.out.cell (World.block_lt_of_cell? w _ hx284_0)).trans hx284_0
                  replace p284 := eq_true p284
                  replace q284 := eq_true q284
                  go_wp2
                  go_roundg k1
                  case measure => have := HK1.out; omega
                  case rel => exact ⟨(false), (wrap64 (x33_1 + 1)), (by first | rfl | (simp; done) | (simp [*]; done)), (by first | rfl | (simp; done) | (simp [*]; done)), H', ⟨by have := HK1.out; omega⟩, ⟨by (with_reducible repeat (first | apply Kd.R_alloc | apply Kd.R_drewN | apply Kd.R_drew)); exact HO_7.out⟩, ⟨by repeat (first | (with_reducible first | exact HB.out | apply below_alloc | apply pw_below_drewN | apply below_drew1) | exact HB.out)⟩⟩
              · rw [if_neg c16] at H
                exact absurd H (by simp)
            · rw [if_neg c15] at H
              exact absurd H (by simp)
          · rw [if_neg c14] at H
            have c14b0 : decide (x33_1 < ((l0.take ((ji3) : Int).toNat).length : Int)) = false := decide_eq_false c14
            (try (have c14b0m : decide (x33_1 < max ji3 0) = false := by have e_ := hji3_; have e2_ : ((l0.take ((ji3) : Int).toNat).length : Int) = max ji3 0 := (by (rw [List.length_take]; split at e_ <;> omega)); rw [← e2_]; exact c14b0))
            clear c14
            by_cases c19 : x9_1 = true
            · subst c19
              have H1 : (if t279 = 0 then ((plaitref03_All.f k1 (l0.take ((ji3) : Int).toNat)).bind fun t286 => (plaitlaw03_VarintEvery.j1 k1 t277 t280 t281 (t278.toList != t286.toList))) else (plaitlaw03_VarintEvery.j1 k1 t277 t280 t281 true)) = some r := by rw [if_pos rfl] at H; exact H
              clear H
              have H := H1
              clear H1
              have HC20 := Aside0.mk H
              clear H
              go_upto_region 13 with (fail)
              go_cut [58] (fun v58 wc => ∃ (kq : Nat) (x58_19 : Bool), v58 = .bool x58_19 ∧ Aside0 (plaitlaw03_VarintEvery.j1 kq t277 t280 t281 x58_19 = some r) ∧ Aside0 (kq ≤ k1) ∧ Aside0 (Kd.R (Kd.int .i64) 3 wc w.heap.size (fun _ => True) v282 t280) ∧ Aside0 (Below w.heap.size w wc))
              case first =>
                have H := HC20.out
                clear HC20
                by_cases c21 : t279 = 0
                · rw [if_pos c21] at H
                  have c21b0 : (t279 == 0) = true := beq_iff_eq.mpr c21
                  have c21b1 : (t279 != 0) = false := bne_eq_false_iff_eq.mpr c21
                  clear c21
                  (first | rw [c21b0] | (simp only [i64_w, i32_w]; rw [c21b0]) | skip)
                  replace H := Option.bind_eq_some_iff.mp H
                  obtain ⟨t286, A220, H⟩ := H
                  replace H : (plaitlaw03_VarintEvery.j1 k1 t277 t280 t281 (t278.toList != t286.toList)) = some r := H
                  have A22 := Aside0.mk A220
                  clear A220
                  have H' := Aside0.mk H
                  clear H
                  have eL_ : (l0.take ((ji3) : Int).toNat).length = ji3.toNat := (by (rw [List.length_take]; have e_ := hji3_; split at e_ <;> omega))
                  have CA_ := plaitref03_All.calls k1 A0 c0 (l0.take ((ji3) : Int).toNat) t286 wr (Kd.C_below HR276.out HB.out) HC276.out A22.out
                  rw [eL_] at CA_
                  clear eL_
                  replace CA_ := Aside0.mk CA_
                  go_wp2_with (first | (go_at_call 42; (with_reducible refine CA_.out.mono ?_); rintro e w23 ⟨rfl, hb⟩; have n0_ := Aside0.mk (Kd.R_below (by (with_reducible repeat (first | apply Kd.R_alloc | apply Kd.R_drewN | apply Kd.R_drew)); exact HO_7.out) hb); have n1_ := Aside0.mk (below_step (by repeat (first | (with_reducible first | exact HB.out | apply below_alloc | apply pw_below_drewN | apply below_drew1) | exact HB.out)) hb); clear HO_7; clear HB; have HO_7 := n0_; have HB := n1_; clear n0_ n1_; (try clear hb); (try clear hb2); (try clear hk); (try clear hi)))
                  go_meet
                  case rel => exact ⟨_, ((t278.toList != t286.toList)), (by first | rfl | (simp; done) | (simp [*]; done)), H', ⟨by have := HK1.out; first | omega | exact Nat.le_refl _⟩, ⟨by (with_reducible repeat (first | apply Kd.R_alloc | apply Kd.R_drewN | apply Kd.R_drew)); exact HO_7.out⟩, ⟨by repeat (first | (with_reducible first | exact HB.out | apply below_alloc | apply pw_below_drewN | apply below_drew1) | exact HB.out)⟩⟩
                · rw [if_neg c21] at H
                  have c21b0 : (t279 == 0) = false := beq_eq_false_iff_ne.mpr c21
                  have c21b1 : (t279 != 0) = true := bne_iff_ne.mpr c21
                  (first | rw [c21b0] | (simp only [i64_w, i32_w]; rw [c21b0]) | skip)
                  have H' := Aside0.mk H
                  clear H
                  go_wp2
                  go_meet
                  case rel => exact ⟨_, (true), (by first | rfl | (simp; done) | (simp [*]; done)), H', ⟨by have := HK1.out; first | omega | exact Nat.le_refl _⟩, ⟨by (with_reducible repeat (first | apply Kd.R_alloc | apply Kd.R_drewN | apply Kd.R_drew)); exact HO_7.out⟩, ⟨by repeat (first | (with_reducible first | exact HB.out | apply below_alloc | apply pw_below_drewN | apply below_drew1) | exact HB.out)⟩⟩
              case rest =>
                clear HC20
                try clear c1
                try clear c2
                try clear p2
                try clear q2
                try clear hx2
                try clear c4
                try clear c4b0
                try clear c4b1
                try clear c5
                try clear c5b0
                try clear c5b1
                try clear p6
                try clear c10
                try clear c14
                try clear c14b0
                try clear c15
                try clear c15b0
                try clear c16
                try clear c16b0
                try clear c17
                try clear c19
                try clear c21
                try clear c21b0
                try clear c21b1
                try clear hx284_0
                try clear p2
                try clear p284
                try clear q284
                obtain ⟨kq, x58_19, rfl, HA, HJ19, HO_7, HB⟩ := hcut
                cases kq with
                | zero => exact absurd HA.out (by simp [plaitlaw03_VarintEvery.j1])
                | succ kj19 =>
                  have H := HA.out
                  clear HA
                  simp only [plaitlaw03_VarintEvery.j1] at H
                  by_cases c24 : x58_19 = true
                  · subst c24
                    have H1 : (some false) = some r := by rw [if_pos rfl] at H; exact H
                    clear H
                    have H := H1
                    clear H1
                    exact absurd (Option.some.inj H) (by rw [hr_.out]; decide)
                  · replace c24 := Bool.eq_false_iff.mpr c24
                    subst c24
                    have H1 : ((plaitref03_Every.f kj19 t277).bind fun bt287 => ((plaitlaw03_alive.f kj19).bind fun t291 => (if t291 = true then (if t281 = bt287.2 then ((plaitref01_Rows.f kj19 t280 bt287.1).bind fun t292 => (some t292)) else (some false)) else (some false)))) = some r := by rw [if_neg (show ¬ (false = true) by decide)] at H; exact H
                    clear H
                    have H := H1
                    clear H1
                    replace H := Option.bind_eq_some_iff.mp H
                    obtain ⟨⟨t287, t288⟩, A250, H⟩ := H
                    replace H : ((plaitlaw03_alive.f kj19).bind fun t291 => (if t291 = true then (if t281 = t288 then ((plaitref01_Rows.f kj19 t280 t287).bind fun t292 => (some t292)) else (some false)) else (some false))) = some r := H
                    have A25 := Aside0.mk A250
                    clear A250
                    replace H := Option.bind_eq_some_iff.mp H
                    obtain ⟨t291, A260, H⟩ := H
                    replace H : (if t291 = true then (if t281 = t288 then ((plaitref01_Rows.f kj19 t280 t287).bind fun t292 => (some t292)) else (some false)) else (some false)) = some r := H
                    have A26 := Aside0.mk A260
                    clear A260
                    by_cases c27 : t291 = true
                    · subst c27
                      have H1 : (if t281 = t288 then ((plaitref01_Rows.f kj19 t280 t287).bind fun t292 => (some t292)) else (some false)) = some r := by rw [if_pos rfl] at H; exact H
                      clear H
                      have H := H1
                      clear H1
                      by_cases c28 : t281 = t288
                      · rw [if_pos c28] at H
                        have c28b0 : (t281 == t288) = true := beq_iff_eq.mpr c28
                        have c28b1 : (t281 != t288) = false := bne_eq_false_iff_eq.mpr c28
                        clear c28
                        replace H := Option.bind_eq_some_iff.mp H
                        obtain ⟨t292, A290, H⟩ := H
                        replace H : (some t292) = some r := H
                        have A29 := Aside0.mk A290
                        clear A290
                        obtain rfl := Option.some.inj H
                        go_wp2_with (first | ((with_reducible refine gate_callee (f := 43) rfl ?_); refine goesL_ (some 61) rfl rfl Try.func43 (by kernel_rfl) rfl #[.string t277] rfl (by (try simp only [List.map_toArray, List.map_cons, List.map_nil]); first | done | rfl | (simp only [List.length_drop, List.length_take]; rfl)) ?_; (with_reducible refine (plaitref03_Every.calls kj19 t277 t287 t288 _ A25.out).mono ?_); rintro e w30 ⟨v289, rfl, ho0, hb⟩; refine ⟨_, rfl, ?_⟩; have n0_ := Aside0.mk (Kd.R_elder' (by (with_reducible repeat (first | apply Kd.R_alloc | apply Kd.R_drewN | apply Kd.R_drew)); exact HO_7.out) (Kd.R_base ho0) hb); have n1_ := Aside0.mk (Kd.R_lower (Kd.R_new' ho0 (Kd.R_lt (by (with_reducible repeat (first | apply Kd.R_alloc | apply Kd.R_drewN | apply Kd.R_drew)); exact HO_7.out))) (below_size (by repeat (first | (with_reducible first | exact HB.out | apply below_alloc | apply pw_below_drewN | apply below_drew1) | exact HB.out)))); have n2_ := Aside0.mk (below_step (by repeat (first | (with_reducible first | exact HB.out | apply below_alloc | apply pw_below_drewN | apply below_drew1) | exact HB.out)) hb); clear HO_7; clear HB; have HO_7 := n0_; have HO290 := n1_; have HB := n2_; clear n0_ n1_ n2_; (try clear hb); (try clear hb2); (try clear hk); (try clear hi); (try clear ho0)) | ((with_reducible refine gate_callee (f := 24) rfl ?_); refine goesL_ (some 64) rfl rfl Try.func24 (by kernel_rfl) rfl #[] rfl (by (try simp only [List.map_toArray, List.map_cons, List.map_nil]); first | done | rfl | (simp only [List.length_drop, List.length_take]; rfl)) ?_; (with_reducible refine (plaitlaw03_alive.calls kj19  true _ A26.out).mono ?_); rintro e w31 ⟨rfl, hb⟩; refine ⟨_, rfl, ?_⟩; have n0_ := Aside0.mk (Kd.R_below (by (with_reducible repeat (first | apply Kd.R_alloc | apply Kd.R_drewN | apply Kd.R_drew)); exact HO_7.out) hb); have n1_ := Aside0.mk (Kd.R_below (by (with_reducible repeat (first | apply Kd.R_alloc | apply Kd.R_drewN | apply Kd.R_drew)); exact HO290.out) hb); have n2_ := Aside0.mk (below_step (by repeat (first | (with_reducible first | exact HB.out | apply below_alloc | apply pw_below_drewN | apply below_drew1) | exact HB.out)) hb); clear HO_7; clear HO290; clear HB; have HO_7 := n0_; have HO290 := n1_; have HB := n2_; clear n0_ n1_ n2_; (try clear hb); (try clear hb2); (try clear hk); (try clear hi); obtain ⟨Ao32, co32, eo32⟩ := Kd.R_slice HO_7.out; subst eo32; obtain ⟨Ao33, co33, eo33⟩ := Kd.R_slice HO290.out; subst eo33) | (go_at_call 38; (with_reducible refine (plaitref01_Rows.calls kj19 _ _ t280 _ _ t287 t292 _ ?side1 ?side2 ?side3 ?side4 A29.out).mono ?_); (case side1 => repeat (first | exact (Kd.R_reads' HO_7.out).2.2 | (with_reducible refine Kd.C_alloc ?_ _) | (with_reducible refine Kd.C_drewN ?_ _) | (with_reducible refine Kd.C_drew ?_))); (case side2 => exact (Kd.R_reads' HO_7.out).2.1); (case side3 => repeat (first | exact (Kd.R_reads' HO290.out).2.2 | (with_reducible refine Kd.C_alloc ?_ _) | (with_reducible refine Kd.C_drewN ?_ _) | (with_reducible refine Kd.C_drew ?_))); (case side4 => exact (Kd.R_reads' HO290.out).2.1); rintro e w' ⟨rfl, ⟨nd, rfl⟩⟩))
                        go_ret
                        exact ⟨by first | rfl | (simp [errW_none, errW_some] <;> rfl) | (simp only [← hji3]; first | rfl | (simp [errW_none, errW_some] <;> rfl)) | (simp [*, errW_none, errW_some] <;> rfl), by repeat (first | (with_reducible first | exact HB.out | apply below_alloc | apply pw_below_drewN | apply below_drew1) | exact HB.out)⟩
                      · rw [if_neg c28] at H
                        have c28b0 : (t281 == t288) = false := beq_eq_false_iff_ne.mpr c28
                        have c28b1 : (t281 != t288) = true := bne_iff_ne.mpr c28
                        exact absurd (Option.some.inj H) (by rw [hr_.out]; decide)
                    · replace c27 := Bool.eq_false_iff.mpr c27
                      subst c27
                      have H1 : (some false) = some r := by rw [if_neg (show ¬ (false = true) by decide)] at H; exact H
                      clear H
                      have H := H1
                      clear H1
                      exact absurd (Option.some.inj H) (by rw [hr_.out]; decide)
            · replace c19 := Bool.eq_false_iff.mpr c19
              subst c19
              have H1 : (if t279 = 1 then (plaitlaw03_VarintEvery.j2 k1 t277 t280 t281 (t278.toList != ([] : List UInt8))) else (plaitlaw03_VarintEvery.j2 k1 t277 t280 t281 true)) = some r := by rw [if_neg (show ¬ (false = true) by decide)] at H; exact H
              clear H
              have H := H1
              clear H1
              have HC34 := Aside0.mk H
              clear H
              go_upto_region 11 with (fail)
              go_cut [50] (fun v50 wc => ∃ (kq : Nat) (x50_33 : Bool), v50 = .bool x50_33 ∧ Aside0 (plaitlaw03_VarintEvery.j2 kq t277 t280 t281 x50_33 = some r) ∧ Aside0 (kq ≤ k1) ∧ Aside0 (Kd.R (Kd.int .i64) 3 wc w.heap.size (fun _ => True) v282 t280) ∧ Aside0 (Below w.heap.size w wc))
              case first =>
                have H := HC34.out
                clear HC34
                by_cases c35 : t279 = 1
                · rw [if_pos c35] at H
                  have c35b0 : (t279 == 1) = true := beq_iff_eq.mpr c35
                  have c35b1 : (t279 != 1) = false := bne_eq_false_iff_eq.mpr c35
                  clear c35
                  (first | rw [c35b0] | (simp only [i64_w, i32_w]; rw [c35b0]) | skip)
                  have H' := Aside0.mk H
                  clear H
                  go_wp2
                  go_meet
                  case rel => exact ⟨_, ((t278.toList != ([] : List UInt8))), (by first | rfl | (simp; done) | (simp [*]; done) | (simp; cases t278.toList <;> rfl) | (cases t278.toList <;> rfl)), H', ⟨by have := HK1.out; first | omega | exact Nat.le_refl _⟩, ⟨by (with_reducible repeat (first | apply Kd.R_alloc | apply Kd.R_drewN | apply Kd.R_drew)); exact HO_7.out⟩, ⟨by repeat (first | (with_reducible first | exact HB.out | apply below_alloc | apply pw_below_drewN | apply below_drew1) | exact HB.out)⟩⟩
                · rw [if_neg c35] at H
                  have c35b0 : (t279 == 1) = false := beq_eq_false_iff_ne.mpr c35
                  have c35b1 : (t279 != 1) = true := bne_iff_ne.mpr c35
                  (first | rw [c35b0] | (simp only [i64_w, i32_w]; rw [c35b0]) | skip)
                  have H' := Aside0.mk H
                  clear H
                  go_wp2
                  go_meet
                  case rel => exact ⟨_, (true), (by first | rfl | (simp; done) | (simp [*]; done)), H', ⟨by have := HK1.out; first | omega | exact Nat.le_refl _⟩, ⟨by (with_reducible repeat (first | apply Kd.R_alloc | apply Kd.R_drewN | apply Kd.R_drew)); exact HO_7.out⟩, ⟨by repeat (first | (with_reducible first | exact HB.out | apply below_alloc | apply pw_below_drewN | apply below_drew1) | exact HB.out)⟩⟩
              case rest =>
                clear HC34
                try clear c1
                try clear c2
                try clear p2
                try clear q2
                try clear hx2
                try clear c3
                try clear c4
                try clear c4b0
                try clear c4b1
                try clear c5
                try clear c5b0
                try clear c5b1
                try clear p6
                try clear c10
                try clear c14
                try clear c14b0
                try clear c15
                try clear c15b0
                try clear c16
                try clear c16b0
                try clear c17
                try clear c19
                try clear c21
                try clear c21b0
                try clear c21b1
                try clear c24
                try clear c25
                try clear c27
                try clear c28
                try clear c28b0
                try clear c28b1
                try clear p28
                try clear q28
                try clear hx28
                try clear c35
                try clear c35b0
                try clear c35b1
                try clear hx284_0
                try clear p2
                try clear p284
                try clear p6
                try clear q2
                try clear q284
                obtain ⟨kq, x50_33, rfl, HA, HJ33, HO_7, HB⟩ := hcut
                cases kq with
                | zero => exact absurd HA.out (by simp [plaitlaw03_VarintEvery.j2])
                | succ kj33 =>
                  have H := HA.out
                  clear HA
                  simp only [plaitlaw03_VarintEvery.j2] at H
                  by_cases c36 : x50_33 = true
                  · subst c36
                    have H1 : (some false) = some r := by rw [if_pos rfl] at H; exact H
                    clear H
                    have H := H1
                    clear H1
                    exact absurd (Option.some.inj H) (by rw [hr_.out]; decide)
                  · replace c36 := Bool.eq_false_iff.mpr c36
                    subst c36
                    have H1 : ((plaitref03_Every.f kj33 t277).bind fun bt293 => ((plaitlaw03_alive.f kj33).bind fun t297 => (if t297 = true then (if t281 = bt293.2 then ((plaitref01_Rows.f kj33 t280 bt293.1).bind fun t298 => (some t298)) else (some false)) else (some false)))) = some r := by rw [if_neg (show ¬ (false = true) by decide)] at H; exact H
                    clear H
                    have H := H1
                    clear H1
                    replace H := Option.bind_eq_some_iff.mp H
                    obtain ⟨⟨t293, t294⟩, A370, H⟩ := H
                    replace H : ((plaitlaw03_alive.f kj33).bind fun t297 => (if t297 = true then (if t281 = t294 then ((plaitref01_Rows.f kj33 t280 t293).bind fun t298 => (some t298)) else (some false)) else (some false))) = some r := H
                    have A37 := Aside0.mk A370
                    clear A370
                    replace H := Option.bind_eq_some_iff.mp H
                    obtain ⟨t297, A380, H⟩ := H
                    replace H : (if t297 = true then (if t281 = t294 then ((plaitref01_Rows.f kj33 t280 t293).bind fun t298 => (some t298)) else (some false)) else (some false)) = some r := H
                    have A38 := Aside0.mk A380
                    clear A380
                    by_cases c39 : t297 = true
                    · subst c39
                      have H1 : (if t281 = t294 then ((plaitref01_Rows.f kj33 t280 t293).bind fun t298 => (some t298)) else (some false)) = some r := by rw [if_pos rfl] at H; exact H
                      clear H
                      have H := H1
                      clear H1
                      by_cases c40 : t281 = t294
                      · rw [if_pos c40] at H
                        have c40b0 : (t281 == t294) = true := beq_iff_eq.mpr c40
                        have c40b1 : (t281 != t294) = false := bne_eq_false_iff_eq.mpr c40
                        clear c40
                        replace H := Option.bind_eq_some_iff.mp H
                        obtain ⟨t298, A410, H⟩ := H
                        replace H : (some t298) = some r := H
                        have A41 := Aside0.mk A410
                        clear A410
                        obtain rfl := Option.some.inj H
                        go_wp2_with (first | ((with_reducible refine gate_callee (f := 43) rfl ?_); refine goesL_ (some 61) rfl rfl Try.func43 (by kernel_rfl) rfl #[.string t277] rfl (by (try simp only [List.map_toArray, List.map_cons, List.map_nil]); first | done | rfl | (simp only [List.length_drop, List.length_take]; rfl)) ?_; (with_reducible refine (plaitref03_Every.calls kj33 t277 t293 t294 _ A37.out).mono ?_); rintro e w42 ⟨v295, rfl, ho0, hb⟩; refine ⟨_, rfl, ?_⟩; have n0_ := Aside0.mk (Kd.R_elder' (by (with_reducible repeat (first | apply Kd.R_alloc | apply Kd.R_drewN | apply Kd.R_drew)); exact HO_7.out) (Kd.R_base ho0) hb); have n1_ := Aside0.mk (Kd.R_lower (Kd.R_new' ho0 (Kd.R_lt (by (with_reducible repeat (first | apply Kd.R_alloc | apply Kd.R_drewN | apply Kd.R_drew)); exact HO_7.out))) (below_size (by repeat (first | (with_reducible first | exact HB.out | apply below_alloc | apply pw_below_drewN | apply below_drew1) | exact HB.out)))); have n2_ := Aside0.mk (below_step (by repeat (first | (with_reducible first | exact HB.out | apply below_alloc | apply pw_below_drewN | apply below_drew1) | exact HB.out)) hb); clear HO_7; clear HB; have HO_7 := n0_; have HO296 := n1_; have HB := n2_; clear n0_ n1_ n2_; (try clear hb); (try clear hb2); (try clear hk); (try clear hi); (try clear ho0)) | ((with_reducible refine gate_callee (f := 24) rfl ?_); refine goesL_ (some 64) rfl rfl Try.func24 (by kernel_rfl) rfl #[] rfl (by (try simp only [List.map_toArray, List.map_cons, List.map_nil]); first | done | rfl | (simp only [List.length_drop, List.length_take]; rfl)) ?_; (with_reducible refine (plaitlaw03_alive.calls kj33  true _ A38.out).mono ?_); rintro e w43 ⟨rfl, hb⟩; refine ⟨_, rfl, ?_⟩; have n0_ := Aside0.mk (Kd.R_below (by (with_reducible repeat (first | apply Kd.R_alloc | apply Kd.R_drewN | apply Kd.R_drew)); exact HO_7.out) hb); have n1_ := Aside0.mk (Kd.R_below (by (with_reducible repeat (first | apply Kd.R_alloc | apply Kd.R_drewN | apply Kd.R_drew)); exact HO296.out) hb); have n2_ := Aside0.mk (below_step (by repeat (first | (with_reducible first | exact HB.out | apply below_alloc | apply pw_below_drewN | apply below_drew1) | exact HB.out)) hb); clear HO_7; clear HO296; clear HB; have HO_7 := n0_; have HO296 := n1_; have HB := n2_; clear n0_ n1_ n2_; (try clear hb); (try clear hb2); (try clear hk); (try clear hi); obtain ⟨Ao44, co44, eo44⟩ := Kd.R_slice HO_7.out; subst eo44; obtain ⟨Ao45, co45, eo45⟩ := Kd.R_slice HO296.out; subst eo45) | (go_at_call 38; (with_reducible refine (plaitref01_Rows.calls kj33 _ _ t280 _ _ t293 t298 _ ?side1 ?side2 ?side3 ?side4 A41.out).mono ?_); (case side1 => repeat (first | exact (Kd.R_reads' HO_7.out).2.2 | (with_reducible refine Kd.C_alloc ?_ _) | (with_reducible refine Kd.C_drewN ?_ _) | (with_reducible refine Kd.C_drew ?_))); (case side2 => exact (Kd.R_reads' HO_7.out).2.1); (case side3 => repeat (first | exact (Kd.R_reads' HO296.out).2.2 | (with_reducible refine Kd.C_alloc ?_ _) | (with_reducible refine Kd.C_drewN ?_ _) | (with_reducible refine Kd.C_drew ?_))); (case side4 => exact (Kd.R_reads' HO296.out).2.1); rintro e w' ⟨rfl, ⟨nd, rfl⟩⟩))
                        go_ret
                        exact ⟨by first | rfl | (simp [errW_none, errW_some] <;> rfl) | (simp only [← hji3]; first | rfl | (simp [errW_none, errW_some] <;> rfl)) | (simp [*, errW_none, errW_some] <;> rfl), by repeat (first | (with_reducible first | exact HB.out | apply below_alloc | apply pw_below_drewN | apply below_drew1) | exact HB.out)⟩
                      · rw [if_neg c40] at H
                        have c40b0 : (t281 == t294) = false := beq_eq_false_iff_ne.mpr c40
                        have c40b1 : (t281 != t294) = true := bne_iff_ne.mpr c40
                        exact absurd (Option.some.inj H) (by rw [hr_.out]; decide)
                    · replace c39 := Bool.eq_false_iff.mpr c39
                      subst c39
                      have H1 : (some false) = some r := by rw [if_neg (show ¬ (false = true) by decide)] at H; exact H
                      clear H
                      have H := H1
                      clear H1
                      exact absurd (Option.some.inj H) (by rw [hr_.out]; decide)
    · rw [if_neg c5] at H
      exact absurd H (by simp)
  · rw [if_neg c4] at H
    exact absurd H (by simp)

/-- THE ONE PURE STATEMENT of plaitlaw03_VarintEvery: yours. -/
def plaitlaw03_VarintEvery.Pure : Prop := ∀ (l0 : List Int) (a1 : ByteArray), l0.length ≤ maxLen → l0.length * 8 ≤ 140737488351232 → (∀ x ∈ l0, (Lit.int .i64 x).wf = true) → a1.size ≤ 140737488351232 → ∃ k, plaitlaw03_VarintEvery.f k l0 a1 = some true
theorem plaitlaw03_VarintEvery.walk (P : plaitlaw03_VarintEvery.Pure) (a0 : Option Addr) (len0 cap0 : Nat) (z0 : List Int) (a1 : ByteArray) (w : World) (w0 : (a0 = none ∧ len0 = 0 ∧ cap0 = 0 ∧ z0 = []) ∨ ∃ x, a0 = some x ∧ len0 ≤ cap0 ∧ cap0 ≤ maxLen ∧ z0.length = cap0 ∧ (∀ i, i < z0.length → w.cell? (x.add i) = some (.int .i64 (z0.getD i 0))) ∧ ∀ n ∈ z0, (Lit.int .i64 n).wf = true) (y0 : len0 * 8 ≤ 140737488351232) (w1 : a1.size ≤ 140737488351232) :
    Calls Try.prog 10 #[.slice a0 len0 cap0, .string a1] w fun e w' => e = .returned (.bool true) ∧ Below w.heap.size w w' := by
  obtain ⟨l0, rfl, hr0, hm0, hw0, hc0⟩ := ReadsInt.ofRowC w0
  obtain ⟨k, h⟩ := P l0 a1 hm0 y0 hw0 w1
  refine (plaitlaw03_VarintEvery.calls k _ _ l0 a1 true w (Kd.C_of_reads (d := (0 : Int)) (h1 := fun _ => rfl) hr0) hc0 h ⟨rfl⟩).mono ?_
  rintro e w' ⟨rfl, hd⟩
  exact ⟨rfl, hd⟩

end Go.Proofs.Ytipmoncamnafbaa.X
