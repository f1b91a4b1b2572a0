import Derived.Test.YtipmoncamnafbaaG4
set_option linter.unusedVariables false
set_option linter.unusedSimpArgs false
namespace Go.Proofs.Ytipmoncamnafbaa.X
open Go.RowKit Go.Proofs.YtipmoncamnafbaaW.PrintWords Go.Proofs.YtipmoncamnafbaaW.PrintLast Go.Proofs.YtipmoncamnafbaaW.PrintMore
attribute [local go_sem] max2_int min2_int max_two min_two max_three min_three max_four min_four

def jl (wa b : List Int) (k : Nat) : List Int := (List.range 16).map fun i => if i < k then mx (wa.getD i 0) (b.getD i 0) else wa.getD i 0
theorem jl_len (wa b : List Int) (k : Nat) : (jl wa b k).length = 16 := by simp [jl]
theorem jl_get (wa b : List Int) (k i : Nat) (h : i < 16) : (jl wa b k)[i]? = some (if i < k then mx (wa.getD i 0) (b.getD i 0) else wa.getD i 0) := by
  simp [jl, h]
theorem jl_zero (wa b : List Int) (h : wa.length = 16) : jl wa b 0 = wa := by
  apply List.ext_getElem?
  intro i
  by_cases hi : i < 16
  · rw [jl_get wa b 0 i hi]; simp [h, hi]
  · rw [List.getElem?_eq_none (by rw [jl_len]; omega), List.getElem?_eq_none (by omega)]
theorem jl_succ (wa b : List Int) (k : Nat) (h : k < 16) : (jl wa b k).set k (mx (wa.getD k 0) (b.getD k 0)) = jl wa b (k + 1) := by
  apply List.ext_getElem?
  intro i
  by_cases hi : i < 16
  · rw [jl_get wa b (k + 1) i hi, List.getElem?_set]
    by_cases hk : k = i
    · subst hk; simp [jl_len, h]
    · rw [if_neg hk, jl_get wa b k i hi]
      by_cases h1 : i < k
      · rw [if_pos h1, if_pos (by omega)]
      · rw [if_neg h1, if_neg (by omega)]
  · rw [List.getElem?_eq_none (by rw [List.length_set, jl_len]; omega), List.getElem?_eq_none (by rw [jl_len]; omega)]

def vclock_Join.f (l0 l1 : List Int) : Option (List Int × Int) := some (if vok l0 && vok l1 then (vtrim (jl (whole l0) l1 l1.length), 0) else ([], 1))

theorem all_two_new (A0 : Option Addr) (c0 : Nat) (l0 : List Int) (A1 : Option Addr) (c1 : Nat) (l1 : List Int) (w : World) (t : TypeId)
    (hr0 : Kd.C (Kd.int .i64) w A0 l0.length l0) (hc0 : l0.length ≤ c0) (hr1 : Kd.C (Kd.int .i64) w A1 l1.length l1) (hc1 : l1.length ≤ c1) :
    Calls Try.prog 71 #[.func (.func 54) #[] #[], .slice (some ⟨w.heap.size, 0, none⟩) 2 2] (w.alloc (.cells #[.slice A0 l0.length c0, .slice A1 l1.length c1] t)) fun e w' => e = .returned (.bool (vok l0 && vok l1)) ∧ Below w.heap.size w w' := by
  refine (all_two A0 c0 l0 A1 c1 l1 ⟨w.heap.size, 0, none⟩ 2 _ (Kd.C_alloc hr0 _) hc0 (Kd.C_alloc hr1 _) hc1 (by rw [World.cell?_alloc_new]; rfl) (by show (w.alloc _).cell? ⟨w.heap.size, 1, none⟩ = _; rw [World.cell?_alloc_new]; rfl)).mono ?_
  rintro e w' ⟨he, hb⟩
  exact ⟨he, ((Below.refl _ _).alloc (Nat.le_refl _) _).trans (hb.mono (by simp))⟩

set_option maxHeartbeats 3200000 in
theorem vclock_Join.calls (A0 : Option Addr) (c0 : Nat) (l0 : List Int) (A1 : Option Addr) (c1 : Nat) (l1 : List Int) (r1 : List Int) (r2 : Int) (w : World) (hr0 : Kd.C (Kd.int .i64) w A0 l0.length l0) (hc0 : l0.length ≤ c0) (hr1 : Kd.C (Kd.int .i64) w A1 l1.length l1) (hc1 : l1.length ≤ c1) (h : vclock_Join.f l0 l1 = some (r1, r2)) :
    Calls Try.prog 35 #[.slice A0 l0.length c0, .slice A1 l1.length c1] w fun e w' => ∃ v0_ : Value, e = .returned (.tuple #[v0_, .int .i64 r2]) ∧ Kd.R (Kd.int .i64) 3 w' w.heap.size (fun _ => True) v0_ r1 ∧ Below w.heap.size w w' := by
  have h' := Option.some.inj h
  clear h
  have hq := Lib.hid (fun t => all_two_new A0 c0 l0 A1 c1 l1 w t hr0 hc0 hr1 hc1)
  by_cases hv : (vok l0 && vok l1) = true
  · rw [if_pos hv] at h'; cases h'
    rw [hv] at hq
    have hv0 : vok l0 = true := by simp only [Bool.and_eq_true] at hv; exact hv.1
    have hv1 : vok l1 = true := by simp only [Bool.and_eq_true] at hv; exact hv.2
    have HL := Lib.hid (whole_len l0 (vok_len hv0))
    have hl1 := vok_len hv1
    have hl1i : (l1.length : Int) ≤ 16 := by omega
    have HW := Lib.hid (fun w1 (hb : Below w.heap.size w w1) => whole_calls A0 c0 l0 w1 (Kd.C_below hr0 hb) hc0 (vok_len hv0))
    have HT := Lib.hid (fun w1 => trim_calls (jl (whole l0) l1 l1.length) w1 (jl_len _ _ _))
    have HR1 := Lib.hid (fun w1 (hb : Below w.heap.size w w1) => Kd.C_below hr1 hb)
    have hz : ∀ w, (zeroValue 82).run Try.prog w = .ok (.agg #[.int .i64 0, .int .i64 0, .int .i64 0, .int .i64 0, .int .i64 0, .int .i64 0, .int .i64 0, .int .i64 0, .int .i64 0, .int .i64 0, .int .i64 0, .int .i64 0, .int .i64 0, .int .i64 0, .int .i64 0, .int .i64 0]) w := fun _ => by kernel_rfl
    clear hr0 hr1 hv
    go_enter Try.func35, Try.ntmps35
    go_wp2_with (first
      | (go_at_call 71; refine (hq.out _).mono ?_; rintro e w1 ⟨rfl, hb⟩)
      | (go_at_call 72; refine (HW.out _ hb).mono ?_; rintro e w2 ⟨rfl, hb2⟩)
      | (refine ev_store_row rfl 82 (.tmp 6) (.tmp 15) rfl w2.heap.size (enc (whole l0)).toArray rfl rfl 82 _ (heap_alloc_new w2 _) ?hi ?ho (enc_one' _) ((hb.trans (hb2.mono hb.size)).alloc (Nat.le_trans hb.size hb2.size) _) (Nat.le_trans hb.size hb2.size) ?_; (case hi => rw [info82]; simp [enc_len, HL.out]); (case ho => simp [enc_len, HL.out]); intro w3 hg3 hb3 _ _))
    have hge : w.heap.size ≤ w2.heap.size := Nat.le_trans hb.size hb2.size
    generalize hw2 : w2.heap.size = g at *
    clear hw2
    go_loopw [7, 8, 18] (fun _ _ i wr => ∃ k : Nat, k ≤ l1.length ∧ i = .int .i64 k ∧ Hid (wr.heap[g]? = some (.cells (enc (jl (whole l0) l1 k)).toArray 82 (0, 0))) ∧ Hid (Below w.heap.size w wr)) (fun _ _ i _ => l1.length - (intOf i).toNat)
    case atStart => exact ⟨0, Nat.zero_le _, rfl, by rw [jl_zero _ _ HL.out]; exact hg3, hb3⟩
    case round =>
      obtain ⟨k, hk, rfl, hgk, hbk⟩ := hrel
      by_cases hlt : k < l1.length
      · have hk16 : k < 16 := by omega
        have hr1 := HR1.out _ hbk.out
        obtain ⟨ad, e, hx⟩ := Kd.at_int hr1 (k : Int) (by omega) (by omega)
        subst e
        have hx' : wr.cell? (ad.add k) = some (.int .i64 (l1.getD k 0)) := by simpa [rd] using hx
        have hcE : (enc (jl (whole l0) l1 k)).toArray[k]? = some (.int .i64 ((whole l0).getD k 0)) := by
          have := jl_get (whole l0) l1 k k hk16
          simp only [Nat.lt_irrefl, if_false] at this
          simp only [enc, List.getElem?_toArray, List.getElem?_map, this, Option.map_some]
        have hck := row_cell hgk.out k hcE
        have hfk := row_free hgk.out k
        have hjs := Lib.hid (jl_succ (whole l0) l1 k hk16)
        clear hx hr1 hcE
        generalize hX : (whole l0).getD k 0 = X at *
        generalize hY : l1.getD k 0 = Y at *
        clear hX hY
        go_wp2
        go_roundw
        case rel => exact ⟨k + 1, by omega, by go_num, by have e := row_set hgk.out k (.int .i64 (if X < Y then Y else X)); rw [enc_set, show (if X < Y then Y else X) = mx X Y from rfl, hjs.out] at e; exact e, below_setCell hbk.out hge k _⟩
        case measure => simp [intOf]; omega
      · obtain rfl : k = l1.length := by omega
        go_wp2_with (first
          | (go_at_call 73; refine (HT.out _).mono ?_; rintro e w5 ⟨v, rfl, hR, hb5⟩)
          | (refine wpList_load_row rfl 82 (.tmp 6) rfl g rfl 82 (enc (jl (whole l0) l1 l1.length)).toArray (0, 0) _ hgk.out Try.underlying82 rfl ?hi ?_; (case hi => rw [info82]; simp [enc_len, jl_len])))
        go_ret2
        exact ⟨v, rfl, Kd.R_lower hR hbk.out.size, hbk.out.trans (hb5.mono hbk.out.size)⟩
  · rw [if_neg hv] at h'; cases h'
    have hv' : (vok l0 && vok l1) = false := by simpa using hv
    rw [hv'] at hq
    clear hr0 hr1 hv hv'
    go_enter Try.func35, Try.ntmps35
    go_wp2_with (go_at_call 71; refine (hq.out _).mono ?_; rintro e w1 ⟨rfl, hb⟩)
    go_ret2
    exact ⟨.slice none 0 0, rfl, Kd.R_nil _ _ _ _ _, hb⟩

def leqB (a wb : List Int) (k : Nat) : Bool := (List.range k).all fun i => decide (a.getD i 0 ≤ wb.getD i 0)
theorem leqB_succ (a wb : List Int) (k : Nat) : leqB a wb (k + 1) = (leqB a wb k && decide (a.getD k 0 ≤ wb.getD k 0)) := by
  simp [leqB, List.range_succ]
theorem leqB_false (a wb : List Int) (k n : Nat) (h : k < n) (hf : ¬ a.getD k 0 ≤ wb.getD k 0) : leqB a wb n = false := by
  rw [leqB, List.all_eq_false]
  exact ⟨k, List.mem_range.2 h, by simpa using hf⟩
def vclock_Leq.f (l0 l1 : List Int) : Option (Bool × Int) := some (if vok l0 && vok l1 then (leqB l0 (whole l1) l0.length, 0) else (false, 1))
set_option maxHeartbeats 3200000 in
theorem vclock_Leq.calls (A0 : Option Addr) (c0 : Nat) (l0 : List Int) (A1 : Option Addr) (c1 : Nat) (l1 : List Int) (r1 : Bool) (r2 : Int) (w : World) (hr0 : Kd.C (Kd.int .i64) w A0 l0.length l0) (hc0 : l0.length ≤ c0) (hr1 : Kd.C (Kd.int .i64) w A1 l1.length l1) (hc1 : l1.length ≤ c1) (h : vclock_Leq.f l0 l1 = some (r1, r2)) :
    Calls Try.prog 37 #[.slice A0 l0.length c0, .slice A1 l1.length c1] w fun e w' => e = .returned (.tuple #[.bool r1, .int .i64 r2]) ∧ Below w.heap.size w w' := by
  have h' := Option.some.inj h
  clear h
  have hq := Lib.hid (fun t => all_two_new A0 c0 l0 A1 c1 l1 w t hr0 hc0 hr1 hc1)
  by_cases hv : (vok l0 && vok l1) = true
  · rw [if_pos hv] at h'; cases h'
    rw [hv] at hq
    have hv0 : vok l0 = true := by simp only [Bool.and_eq_true] at hv; exact hv.1
    have hv1 : vok l1 = true := by simp only [Bool.and_eq_true] at hv; exact hv.2
    have HL := Lib.hid (whole_len l1 (vok_len hv1))
    have hl0 := vok_len hv0
    have hl0i : (l0.length : Int) ≤ 16 := by omega
    have HW := Lib.hid (fun w1 (hb : Below w.heap.size w w1) => whole_calls A1 c1 l1 w1 (Kd.C_below hr1 hb) hc1 (vok_len hv1))
    have HR0 := Lib.hid (fun w1 (hb : Below w.heap.size w w1) => Kd.C_below hr0 hb)
    have hz : ∀ w, (zeroValue 82).run Try.prog w = .ok (.agg #[.int .i64 0, .int .i64 0, .int .i64 0, .int .i64 0, .int .i64 0, .int .i64 0, .int .i64 0, .int .i64 0, .int .i64 0, .int .i64 0, .int .i64 0, .int .i64 0, .int .i64 0, .int .i64 0, .int .i64 0, .int .i64 0]) w := fun _ => by kernel_rfl
    clear hr0 hr1 hv
    go_enter Try.func37, Try.ntmps37
    go_wp2_with (first
      | (go_at_call 71; refine (hq.out _).mono ?_; rintro e w1 ⟨rfl, hb⟩)
      | (go_at_call 72; refine (HW.out _ hb).mono ?_; rintro e w2 ⟨rfl, hb2⟩)
      | (refine ev_store_row rfl 82 (.tmp 6) (.tmp 15) rfl w2.heap.size (enc (whole l1)).toArray rfl rfl 82 _ (heap_alloc_new w2 _) ?hi ?ho (enc_one' _) ((hb.trans (hb2.mono hb.size)).alloc (Nat.le_trans hb.size hb2.size) _) (Nat.le_trans hb.size hb2.size) ?_; (case hi => rw [info82]; simp [enc_len, HL.out]); (case ho => simp [enc_len, HL.out]); intro w3 hg3 hb3 _ _))
    have hge : w.heap.size ≤ w2.heap.size := Nat.le_trans hb.size hb2.size
    generalize hw2 : w2.heap.size = g at *
    clear hw2 hq
    have hr0 := HR0.out _ hb3.out
    go_loop [7, 8, 18] (fun _ _ i => ∃ k : Nat, k ≤ l0.length ∧ i = .int .i64 k ∧ leqB l0 (whole l1) k = true) (fun _ _ i => l0.length - (intOf i).toNat)
    case atStart => exact ⟨0, Nat.zero_le _, rfl, rfl⟩
    case round =>
      obtain ⟨k, hk, rfl, hle⟩ := hrel
      have HE := Lib.hid hle
      clear hle
      by_cases hlt : k < l0.length
      · have hk16 : k < 16 := by omega
        obtain ⟨ad, e, hx⟩ := Kd.at_int hr0 (k : Int) (by omega) (by omega)
        subst e
        have hx' : w3.cell? (ad.add k) = some (.int .i64 (l0.getD k 0)) := by simpa [rd] using hx
        have hcE : (enc (whole l1)).toArray[k]? = some (.int .i64 ((whole l1).getD k 0)) := by
          have : k < (whole l1).length := by rw [HL.out]; exact hk16
          simp [enc, this]
        have hck := row_cell hg3.out k hcE
        have HS := Lib.hid (leqB_succ l0 (whole l1) k)
        have HF := Lib.hid (leqB_false l0 (whole l1) k l0.length hlt)
        clear hx hcE
        generalize hX : (whole l1).getD k 0 = X at *
        generalize hY : l0.getD k 0 = Y at *
        clear hX hY
        by_cases hle : Y ≤ X
        · have hd : decide (X < Y) = false := by simp; omega
          have HD := Lib.hid hle
          clear hle
          go_wp2
          go_round
          case rel => exact ⟨k + 1, by omega, by go_num, by rw [HS.out, HE.out]; simpa using HD.out⟩
          case measure => simp [intOf]; omega
        · have hd : decide (X < Y) = true := by simp; omega
          have HD := Lib.hid hle
          clear hle
          go_wp2
          go_ret2
          exact ⟨by rw [HF.out HD.out]; rfl, hb3.out⟩
      · obtain rfl : k = l0.length := by omega
        go_wp2
        go_ret2
        exact ⟨by rw [HE.out]; rfl, hb3.out⟩
  · rw [if_neg hv] at h'; cases h'
    have hv' : (vok l0 && vok l1) = false := by simpa using hv
    rw [hv'] at hq
    clear hr0 hr1 hv hv'
    go_enter Try.func37, Try.ntmps37
    go_wp2_with (go_at_call 71; refine (hq.out _).mono ?_; rintro e w1 ⟨rfl, hb⟩)
    go_ret2
    exact ⟨rfl, hb⟩
end Go.Proofs.Ytipmoncamnafbaa.X
