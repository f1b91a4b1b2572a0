/- The contract of the reference's Trim: the entries up to the last one above 0. -/
import Derived.Test.YtipmoncamnafbaaG5
set_option linter.unusedVariables false
set_option linter.unusedSimpArgs false
namespace Go.Proofs.Ytipmoncamnafbaa.X
open Go.RowKit Go.Proofs.YtipmoncamnafbaaW.PrintWords Go.Proofs.YtipmoncamnafbaaW.PrintLast Go.Proofs.YtipmoncamnafbaaW.PrintMore
attribute [local go_sem] max2_int min2_int max_two min_two max_three min_three max_four min_four

def fmx (xs : List Int) : Int := xs.foldl mx 0
theorem fmx_snoc (xs : List Int) (x : Int) : fmx (xs ++ [x]) = mx (fmx xs) x := by simp [fmx]
def ptrK (l : List Int) (k : Nat) : List Int := (List.range k).filterMap fun g => if 0 < fmx (l.drop g) then some (l.getD g 0) else none
theorem ptrK_succ (l : List Int) (k : Nat) : ptrK l (k + 1) = ptrK l k ++ (if 0 < fmx (l.drop k) then [l.getD k 0] else []) := by
  rw [ptrK, List.range_succ, List.filterMap_append]
  by_cases h : 0 < fmx (l.drop k) <;> simp [ptrK, h]
theorem ptrK_len (l : List Int) (k : Nat) : (ptrK l k).length ≤ k := by
  rw [ptrK]; exact Nat.le_trans (List.length_filterMap_le _ _) (by simp)
def plaitref01_Trim.f (l0 : List Int) : Option (List Int) := if l0.length ≤ 1000 then some (ptrK l0 l0.length) else none

set_option maxHeartbeats 3200000 in
theorem plaitref01_Trim.calls (A0 : Option Addr) (c0 : Nat) (l0 : List Int) (r : List Int) (w : World) (hr0 : Kd.C (Kd.int .i64) w A0 l0.length l0) (hc0 : l0.length ≤ c0) (h : plaitref01_Trim.f l0 = some r) :
    Calls Try.prog 57 #[.slice A0 l0.length c0] w fun e w' => ∃ v0_ : Value, e = .returned (v0_) ∧ Kd.R (Kd.int .i64) 3 w' w.heap.size (fun _ => True) v0_ r ∧ Below w.heap.size w w' := by
  unfold plaitref01_Trim.f at h
  by_cases hl : l0.length ≤ 1000
  · rw [if_pos hl] at h
    obtain rfl := Option.some.inj h
    clear h
    have HR := Lib.hid (fun w1 (hb : Below w.heap.size w w1) => Kd.C_below hr0 hb)
    clear hr0
    obtain ⟨i0, hi, hz0, hz1, hz2⟩ := info_parts info3'
    go_enter Try.func57, Try.ntmps57
    go_wp2
    go_loopw [3, 4, 5, 7, 11] (fun v _ _ _ i wr => ∃ k : Nat, k ≤ l0.length ∧ i = .int .i64 k ∧ Hid (Kd.R (Kd.int .i64) 3 wr w.heap.size (fun _ => True) v (ptrK l0 k)) ∧ Hid (Below w.heap.size w wr)) (fun _ _ _ _ i _ => l0.length - (intOf i).toNat)
    case atStart =>
      refine ⟨0, Nat.zero_le _, rfl, ?_, (Below.refl _ _).alloc (Nat.le_refl _) _⟩
      exact Kd.R_of_own (xs := []) ⟨rfl, .inr ⟨w.heap.size, 0, #[], rfl, Nat.le_refl _, heap_alloc_new w _, Nat.le_refl _, by simp [maxLen], rfl, rfl⟩⟩ (fun _ _ => trivial)
    case round =>
      obtain ⟨k, hk, rfl, hown, hB⟩ := hrel
      by_cases hlt : k < l0.length
      · have hC := HR.out _ hB.out
        obtain ⟨A1, hcut, hA1, hC1⟩ := print_drop_of (P := Try.prog) (Value.int .i64) 0 28 3 .i64 Try.underlying28 hi hz1 A0 c0 l0 (k : Int) (by omega) (by omega) hc0
        obtain ⟨ad, e, hx⟩ := Kd.at_int hC (k : Int) (by omega) (by omega)
        subst e
        have hx' : wr.cell? (ad.add k) = some (.int .i64 (l0.getD k 0)) := by simpa [rd] using hx
        rw [Int.toNat_natCast] at hcut hA1 hC1
        have hC2 : Kd.C (Kd.int .i64) wr A1 (l0.drop k).length (l0.drop k) := Kd.C_of_reads (d := (0 : Int)) (hA1 wr (Kd.reads_of_C (enc := Value.int .i64) (d := (0 : Int)) (h1 := fun _ => rfl) hC))
        have hdl : (l0.drop k).length ≤ 1000 := by simp; omega
        have HS := Lib.hid (ptrK_succ l0 k)
        have HLEN := Lib.hid (ptrK_len l0 k)
        generalize hD : l0.drop k = D at *
        have HD := Lib.hid hD
        clear hD hx hA1 hC
        have hkl : (k : Int) ≤ (l0.length : Int) := by omega
        generalize hY : l0.getD k 0 = Y at *
        clear hY
        go_wp2
        obtain ⟨wo, hwo⟩ : ∃ wo : World, wo = wr := ⟨_, rfl⟩
        rw [← hwo]
        subst hwo
        go_loop [5, 7, 18] (fun r _ j => ∃ m : Nat, m ≤ D.length ∧ j = .int .i64 m ∧ r = .int .i64 (fmx (D.take m))) (fun _ _ j => D.length - (intOf j).toNat)
        case atStart => exact ⟨0, Nat.zero_le _, rfl, rfl⟩
        case round =>
          obtain ⟨m, hm, rfl, rfl⟩ := hrel
          by_cases hmlt : m < D.length
          · obtain ⟨ad2, e2, hz⟩ := Kd.at_int hC2 (m : Int) (by omega) (by omega)
            subst e2
            have hz' : wo.cell? (ad2.add m) = some (.int .i64 (D.getD m 0)) := by simpa [rd] using hz
            have HF : Hid (fmx (D.take (m + 1)) = mx (fmx (D.take m)) (D.getD m 0)) := by
              show _ = _
              rw [List.take_succ_eq_append_getElem hmlt, fmx_snoc]; simp [hmlt]
            clear hz
            generalize fmx (D.take m) = F at *
            generalize D.getD m 0 = Z at *
            go_wp2
            go_round
            case rel => exact ⟨m + 1, by omega, by go_num, by rw [HF.out]; rfl⟩
            case measure => simp [intOf]; omega
          · obtain rfl : m = D.length := by omega
            rw [List.take_of_length_le (Nat.le_refl _)]
            generalize hFF : fmx D = FF at *
            by_cases hpos : 0 < FF
            · have hb : decide (0 < FF) = true := by simpa using hpos
              rw [if_pos hpos] at HS
              go_wp2_with (first
                | ((with_reducible refine gate_builtin (b := .append) (xs := #[.tmp 28, .tmp 33]) rfl ?_); at_builtin; refine Kd.R_append (P := Try.prog) (Kd.int .i64) (w0 := w) w.heap.size rfl (.tmp 28) (.tmp 33) 28 3 (.int .i64 0) 8 rfl Try.underlying28 info3' rfl (by decide) (by omega) _ (ptrK l0 k) Y [.int .i64 Y] (fun _ => True) (fun _ => False) rfl rfl ?aP (fun _ hk => hk.elim) (fun _ _ => trivial) hown.out hB.out hB.out.size ?aL ?_; (case aP => exact rfl); (case aL => have := HLEN.out; omega); intro v1 w2 ho hb2 hg hat; rw [← HS.out] at ho; have HO := Lib.hid ho; have HB2 := Lib.hid hb2; clear ho hb2 hg hat))
              go_roundw
              case rel => exact ⟨k + 1, by omega, by go_num, HO, HB2⟩
              case measure => simp [intOf]; omega
            · have hb : decide (0 < FF) = false := by simpa using hpos
              rw [if_neg hpos, List.append_nil] at HS
              go_wp2
              go_roundw
              case rel => exact ⟨k + 1, by omega, by go_num, HS.out ▸ hown, hB⟩
              case measure => simp [intOf]; omega
      · obtain rfl : k = l0.length := by omega
        go_wp2
        go_ret
        exact ⟨_, rfl, hown.out, hB.out⟩
  · rw [if_neg hl] at h; cases h
end Go.Proofs.Ytipmoncamnafbaa.X
