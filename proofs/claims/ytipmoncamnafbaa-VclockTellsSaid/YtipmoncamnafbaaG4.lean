import Derived.Test.YtipmoncamnafbaaG3
import Derived.Test.YtipmoncamnafbaaU
set_option linter.unusedVariables false
set_option linter.unusedSimpArgs false
namespace Go.Proofs.Ytipmoncamnafbaa.X
open Go.RowKit Go.Proofs.YtipmoncamnafbaaW.PrintWords Go.Proofs.YtipmoncamnafbaaW.PrintLast Go.Proofs.YtipmoncamnafbaaW.PrintMore

theorem info3z : ∃ i, Try.prog.info? 3 = some i ∧ i.size = 1 := by
  have h := isz3
  cases e : Try.prog.info? 3 with
  | none => rw [e] at h; cases h
  | some i => rw [e] at h; exact ⟨i, rfl, by simpa using h⟩
theorem run_index82 (L : List Int) (hL : L.length = 16) (a1 : Int) (h0 : 0 ≤ a1) (h1 : a1 < 16) (w : World) :
    (Instr.index 82 (.agg (enc L).toArray) (.int .i64 a1)).run Try.prog w = .ok (.int .i64 (L.getD a1.toNat 0)) w := by
  obtain ⟨i, hi, hs⟩ := info3z
  have hn : a1.toNat < L.length := by omega
  have hagg : (isAgg 3).run Try.prog w = .ok false w := by kernel_rfl
  simp [Instr.index, asIntOf, run_underlying Try.underlying82, h0, h1, sizeOf, typeInfo, hi, hs, part, hagg, enc, hn]
theorem vok_len {l : List Int} (h : vok l = true) : l.length ≤ 16 := by
  simp only [vok, Bool.and_eq_true, decide_eq_true_eq] at h; exact h.1
def vclock_At.f (l0 : List Int) (a1 : Int) : Option (Int × Int) :=
  some (if vok l0 then (if a1 < 0 then (0, 3) else if 16 ≤ a1 then (0, 3) else ((whole l0).getD a1.toNat 0, 0)) else (0, 1))
set_option maxHeartbeats 1600000 in
theorem vclock_At.calls (A0 : Option Addr) (c0 : Nat) (l0 : List Int) (a1 : Int) (r1 : Int) (r2 : Int) (w : World) (hr0 : Kd.C (Kd.int .i64) w A0 l0.length l0) (hc0 : l0.length ≤ c0) (h : vclock_At.f l0 a1 = some (r1, r2)) :
    Calls Try.prog 52 #[.slice A0 l0.length c0, .int .i64 a1] w fun e w' => e = .returned (.tuple #[.int .i64 r1, .int .i64 r2]) ∧ Below w.heap.size w w' := by
  have h' := Option.some.inj h
  clear h
  have hq := vclock_Right.calls A0 c0 l0 _ w hr0 hc0 rfl
  by_cases hv : vok l0 = true
  · rw [if_pos hv] at h'
    rw [hv] at hq
    by_cases h0 : a1 < 0
    · rw [if_pos h0] at h'; cases h'
      have h0b : decide (a1 < 0) = true := by simpa using h0
      clear hr0 h0
      go_enter Try.func52, Try.ntmps52
      go_wp2_with (go_at_call 54; refine hq.mono ?_; rintro e w1 ⟨rfl, hb⟩)
      go_ret2
      exact ⟨rfl, hb⟩
    · rw [if_neg h0] at h'
      have h0b : decide (a1 < 0) = false := by simpa using h0
      by_cases h1 : 16 ≤ a1
      · rw [if_pos h1] at h'; cases h'
        have h1b : decide (16 ≤ a1) = true := by simpa using h1
        clear hr0 h0 h1
        go_enter Try.func52, Try.ntmps52
        go_wp2_with (go_at_call 54; refine hq.mono ?_; rintro e w1 ⟨rfl, hb⟩)
        go_ret2
        exact ⟨rfl, hb⟩
      · rw [if_neg h1] at h'
        have h1b : decide (16 ≤ a1) = false := by simpa using h1
        have hw : ∀ w1, Below w.heap.size w w1 → Calls Try.prog 72 #[.slice A0 l0.length c0] w1 fun e w' => e = .returned (.agg (enc (whole l0)).toArray) ∧ Below w1.heap.size w1 w' :=
          fun w1 hb => whole_calls A0 c0 l0 w1 (Kd.C_below hr0 hb) hc0 (vok_len hv)
        have HW := Lib.hid hw
        have hidx := run_index82 (whole l0) (whole_len l0 (vok_len hv)) a1 (by omega) (by omega)
        have H' := Lib.hid h'
        clear hr0 hw h'
        go_enter Try.func52, Try.ntmps52
        go_wp2_with (first | (go_at_call 54; refine hq.mono ?_; rintro e w1 ⟨rfl, hb⟩) | (go_at_call 72; refine (HW.out _ hb).mono ?_; rintro e w2 ⟨rfl, hb2⟩))
        go_ret2
        have h' := H'.out
        cases h'
        exact ⟨rfl, hb.trans (hb2.mono hb.size)⟩
  · rw [if_neg hv] at h'; cases h'
    have hv' : vok l0 = false := by simpa using hv
    rw [hv'] at hq
    clear hr0
    go_enter Try.func52, Try.ntmps52
    go_wp2_with (go_at_call 54; refine hq.mono ?_; rintro e w1 ⟨rfl, hb⟩)
    go_ret2
    exact ⟨rfl, hb⟩

def vclock_Trim.f (l0 : List Int) : Option (List Int × Int) := some (if vok l0 then (vtrim (whole l0), 0) else ([], 1))
set_option maxHeartbeats 1600000 in
theorem vclock_Trim.calls (A0 : Option Addr) (c0 : Nat) (l0 : List Int) (r1 : List Int) (r2 : Int) (w : World) (hr0 : Kd.C (Kd.int .i64) w A0 l0.length l0) (hc0 : l0.length ≤ c0) (h : vclock_Trim.f l0 = some (r1, r2)) :
    Calls Try.prog 39 #[.slice A0 l0.length c0] w fun e w' => ∃ v0_ : Value, e = .returned (.tuple #[v0_, .int .i64 r2]) ∧ Kd.R (Kd.int .i64) 3 w' w.heap.size (fun _ => True) v0_ r1 ∧ Below w.heap.size w w' := by
  have h' := Option.some.inj h
  clear h
  have hq := vclock_Right.calls A0 c0 l0 _ w hr0 hc0 rfl
  by_cases hv : vok l0 = true
  · rw [if_pos hv] at h'; cases h'
    rw [hv] at hq
    have hw : ∀ w1, Below w.heap.size w w1 → Calls Try.prog 72 #[.slice A0 l0.length c0] w1 fun e w' => e = .returned (.agg (enc (whole l0)).toArray) ∧ Below w1.heap.size w1 w' :=
      fun w1 hb => whole_calls A0 c0 l0 w1 (Kd.C_below hr0 hb) hc0 (vok_len hv)
    have HW := Lib.hid hw
    have HT := Lib.hid (fun w1 => trim_calls (whole l0) w1 (whole_len l0 (vok_len hv)))
    clear hr0 hw
    go_enter Try.func39, Try.ntmps39
    go_wp2_with (first | (go_at_call 54; refine hq.mono ?_; rintro e w1 ⟨rfl, hb⟩) | (go_at_call 72; refine (HW.out _ hb).mono ?_; rintro e w2 ⟨rfl, hb2⟩) | (go_at_call 73; refine (HT.out _).mono ?_; rintro e w3 ⟨v, rfl, hR, hb3⟩))
    go_ret2
    exact ⟨v, rfl, Kd.R_lower hR (Nat.le_trans hb.size hb2.size), (hb.trans (hb2.mono hb.size)).trans (hb3.mono (Nat.le_trans hb.size hb2.size))⟩
  · rw [if_neg hv] at h'; cases h'
    have hv' : vok l0 = false := by simpa using hv
    rw [hv'] at hq
    clear hr0
    go_enter Try.func39, Try.ntmps39
    go_wp2_with (go_at_call 54; refine hq.mono ?_; rintro e w1 ⟨rfl, hb⟩)
    go_ret2
    exact ⟨.slice none 0 0, rfl, Kd.R_nil _ _ _ _ _, hb⟩

def vclock_Tick.f (l0 : List Int) (a1 : Int) : Option (List Int × Int) :=
  (vclock_At.f l0 a1).map fun p => if p.2 = 0 then (if p.1 = 1099511627776 then ([], 8) else (vtrim ((whole l0).set a1.toNat (p.1 + 1)), 0)) else ([], p.2)
theorem enc_set (l : List Int) (k : Nat) (x : Int) : (enc l).toArray.setIfInBounds k (.int .i64 x) = (enc (l.set k x)).toArray := by
  simp [enc, List.map_set]
set_option maxHeartbeats 1600000 in
theorem vclock_Tick.calls (A0 : Option Addr) (c0 : Nat) (l0 : List Int) (a1 : Int) (r1 : List Int) (r2 : Int) (w : World) (hr0 : Kd.C (Kd.int .i64) w A0 l0.length l0) (hc0 : l0.length ≤ c0) (h : vclock_Tick.f l0 a1 = some (r1, r2)) :
    Calls Try.prog 53 #[.slice A0 l0.length c0, .int .i64 a1] w fun e w' => ∃ v0_ : Value, e = .returned (.tuple #[v0_, .int .i64 r2]) ∧ Kd.R (Kd.int .i64) 3 w' w.heap.size (fun _ => True) v0_ r1 ∧ Below w.heap.size w w' := by
  obtain ⟨⟨n, bad⟩, hat, h'⟩ := Option.map_eq_some_iff.1 h
  clear h
  have hq := vclock_At.calls A0 c0 l0 a1 n bad w hr0 hc0 hat
  simp only at h'
  by_cases hbad : bad = 0
  · subst hbad
    rw [if_pos rfl] at h'
    unfold vclock_At.f at hat
    have hat := Option.some.inj hat
    by_cases hv : vok l0 = true
    · rw [if_pos hv] at hat
      by_cases h0 : a1 < 0
      · rw [if_pos h0] at hat; cases hat
      · rw [if_neg h0] at hat
        by_cases h1 : 16 ≤ a1
        · rw [if_pos h1] at hat; cases hat
        · rw [if_neg h1] at hat
          obtain ⟨k, rfl⟩ : ∃ k : Nat, a1 = k := ⟨a1.toNat, by omega⟩
          have hk : k < 16 := by omega
          have hn : n = (whole l0).getD k 0 := by cases hat; simp
          clear hat
          by_cases hmax : n = 1099511627776
          · rw [if_pos hmax] at h'; cases h'
            have hm : (n == 1099511627776) = true := beq_iff_eq.2 hmax
            clear hmax hn hr0
            go_enter Try.func53, Try.ntmps53
            go_wp2_with (go_at_call 52; refine hq.mono ?_; rintro e w1 ⟨rfl, hb⟩)
            go_ret2
            exact ⟨.slice none 0 0, rfl, Kd.R_nil _ _ _ _ _, hb⟩
          · rw [if_neg hmax] at h'; cases h'
            have hm : (n == 1099511627776) = false := beq_eq_false_iff_ne.2 hmax
            have hL := whole_len l0 (vok_len hv)
            have hlo : 0 ≤ n ∧ n ≤ 1099511627776 := by
              have hall : (whole l0).all tickOk = true := by
                simp only [vok, Bool.and_eq_true] at hv
                simp only [whole, List.all_append, hv.2, Bool.true_and, List.all_replicate]
                simp [tickOk]
              have hkl : k < (whole l0).length := by omega
              have := List.all_eq_true.1 hall ((whole l0)[k]) (List.getElem_mem hkl)
              rw [hn]
              simpa [tickOk, hkl] using this
            have hlo1 := hlo.1
            have hlo2 := hlo.2
            have hw : ∀ w1, Below w.heap.size w w1 → Calls Try.prog 72 #[.slice A0 l0.length c0] w1 fun e w' => e = .returned (.agg (enc (whole l0)).toArray) ∧ Below w1.heap.size w1 w' :=
              fun w1 hb => whole_calls A0 c0 l0 w1 (Kd.C_below hr0 hb) hc0 (vok_len hv)
            have hcellE : (enc (whole l0)).toArray[k]? = some (.int .i64 n) := by
              rw [hn]; simp [enc, hL, hk]
            have HC := Lib.hid hcellE
            have HW := Lib.hid hw
            have HL := Lib.hid hL
            have HT := Lib.hid (fun w1 => trim_calls ((whole l0).set k (n + 1)) w1 (by rw [List.length_set]; exact hL))
            have hz : ∀ w, (zeroValue 82).run Try.prog w = .ok (.agg #[.int .i64 0, .int .i64 0, .int .i64 0, .int .i64 0, .int .i64 0, .int .i64 0, .int .i64 0, .int .i64 0, .int .i64 0, .int .i64 0, .int .i64 0, .int .i64 0, .int .i64 0, .int .i64 0, .int .i64 0, .int .i64 0]) w := fun _ => by kernel_rfl
            clear hmax hn hr0 hw hL hcellE
            go_enter Try.func53, Try.ntmps53
            go_upto_region 7 with (first
              | (go_at_call 52; refine hq.mono ?_; rintro e w1 ⟨rfl, hb⟩)
              | (go_at_call 72; refine (HW.out _ hb).mono ?_; rintro e w2 ⟨rfl, hb2⟩)
              | (refine ev_store_row rfl 82 (.tmp 8) (.tmp 23) rfl w2.heap.size (enc (whole l0)).toArray rfl rfl 82 _ (heap_alloc_new w2 _) ?hi ?ho (enc_one' _) ((hb.trans (hb2.mono hb.size)).alloc (Nat.le_trans hb.size hb2.size) _) (Nat.le_trans hb.size hb2.size) ?_; (case hi => rw [info82]; simp [enc_len, HL.out]); (case ho => simp [enc_len, HL.out]); intro w3 hg3 hb3 _ _))
            have hge : w.heap.size ≤ w2.heap.size := Nat.le_trans hb.size hb2.size
            have hc3 := row_cell hg3.out k HC.out
            have hf3 := row_free hg3.out k
            have hb4 := Lib.hid (below_setCell hb3.out hge k (.int .i64 (n + 1)))
            have hg4 := row_set hg3.out k (.int .i64 (n + 1))
            rw [enc_set] at hg4
            have HG4 := Lib.hid hg4
            clear hg4
            generalize hw2 : w2.heap.size = g at *
            clear hw2
            go_wp2_with (first
              | (go_at_call 73; refine (HT.out _).mono ?_; rintro e w5 ⟨v, rfl, hR, hb5⟩)
              | (refine wpList_load_row rfl 82 (.tmp 8) rfl g rfl 82 (enc ((whole l0).set k (n + 1))).toArray (0, 0) _ HG4.out Try.underlying82 rfl ?hi ?_; (case hi => rw [info82]; simp [enc_len, HL.out])))
            go_ret2
            exact ⟨v, rfl, Kd.R_lower hR hb4.out.size, hb4.out.trans (hb5.mono hb4.out.size)⟩
    · rw [if_neg hv] at hat; cases hat
  · rw [if_neg hbad] at h'; cases h'
    have hbd : (r2 != 0) = true := bne_iff_ne.2 hbad
    clear hr0 hbad hat
    go_enter Try.func53, Try.ntmps53
    go_wp2_with (go_at_call 52; refine hq.mono ?_; rintro e w1 ⟨rfl, hb⟩)
    go_ret2
    exact ⟨.slice none 0 0, rfl, Kd.R_nil _ _ _ _ _, hb⟩
end Go.Proofs.Ytipmoncamnafbaa.X
