import Derived.Test.YtipmoncamnafbaaG2
import Derived.Laws.CopyOwn
import Derived.Laws.Tables
import Derived.WalkSpells
set_option linter.unusedVariables false
set_option linter.unusedSimpArgs false
namespace Go.Proofs.Ytipmoncamnafbaa.X
open Go.RowKit Go.Proofs.YtipmoncamnafbaaW.PrintWords Go.Proofs.YtipmoncamnafbaaW.PrintLast Go.Proofs.YtipmoncamnafbaaW.PrintMore

def whole (l : List Int) : List Int := l ++ List.replicate (16 - l.length) 0
def enc (l : List Int) : List Value := l.map (Value.int .i64)
theorem enc_len (l : List Int) : (enc l).length = l.length := by simp [enc]
theorem enc_one (l : List Int) : ∀ v ∈ enc l, v.oneCell' = true := by
  intro v hv; simp only [enc, List.mem_map] at hv; obtain ⟨x, _, rfl⟩ := hv; rfl
theorem enc_one' (l : List Int) : (enc l).toArray.all (·.oneCell') = true := by
  rw [Array.all_eq_true_iff_forall_mem]; intro v hv; exact enc_one l v (by simpa using hv)
theorem whole_len (l : List Int) (h : l.length ≤ 16) : (whole l).length = 16 := by simp [whole]; omega
theorem info82 : (Try.prog.info? 82).map (·.size) = some 16 := by kernel_rfl
theorem isz3 : (Try.prog.info? 3).map (·.size) = some 1 := by kernel_rfl
theorem splice_whole (l : List Int) (h : l.length ≤ 16) : splice (List.replicate 16 (Value.int .i64 0)) 0 (enc l) = enc (whole l) := by
  rw [splice, List.drop_replicate]; simp [enc, whole]
theorem at_ints {w : World} {A0 : Option Addr} {l : List Int} (hr : Kd.C (Kd.int .i64) w A0 l.length l) (h : 0 < (enc l).length) : ∃ ad, A0 = some ad ∧ ∀ j v, (enc l)[j]? = some v → w.cell? (ad.add j) = some v := by
  rw [enc_len] at h
  obtain ⟨ad, e, _⟩ := Kd.at_int hr (0 : Int) (by omega) (by omega)
  refine ⟨ad, e, ?_⟩
  intro j v hv
  simp only [enc, List.getElem?_map, Option.map_eq_some_iff] at hv
  obtain ⟨x, hx, rfl⟩ := hv
  obtain ⟨hj, hx⟩ := List.getElem?_eq_some_iff.1 hx
  obtain ⟨ad', e', hc⟩ := Kd.at_int hr (j : Int) (by omega) (by omega)
  rw [e] at e'; cases e'
  simpa [rd, hj, hx] using hc
set_option maxHeartbeats 800000 in
theorem whole_calls (A0 : Option Addr) (c0 : Nat) (l : List Int) (w : World) (hr : Kd.C (Kd.int .i64) w A0 l.length l) (hc : l.length ≤ c0) (hl : l.length ≤ 16) :
    Calls Try.prog 72 #[.slice A0 l.length c0] w fun e w' => e = .returned (.agg (enc (whole l)).toArray) ∧ Below w.heap.size w w' := by
  have hm : l.length ≤ 9223372036854775807 := hr.2.1
  have hr' : ∀ o, Kd.C (Kd.int .i64) (w.alloc o) A0 l.length l := fun o => Kd.C_alloc hr o
  clear hr
  have hlen := whole_len l hl
  have hz : ∀ w, (zeroValue 82).run Try.prog w = .ok (.agg #[.int .i64 0, .int .i64 0, .int .i64 0, .int .i64 0, .int .i64 0, .int .i64 0, .int .i64 0, .int .i64 0, .int .i64 0, .int .i64 0, .int .i64 0, .int .i64 0, .int .i64 0, .int .i64 0, .int .i64 0, .int .i64 0]) w := fun _ => by kernel_rfl
  have HL := Lib.hid hlen; clear hlen
  go_enter Try.func72, Try.ntmps72
  go_wp2_with (first
    | ((refine wpList_copy_splice rfl (.tmp 3) (.tmp 4) 28 28 rfl 3 Try.underlying28 isz3 _ _ _ _ _ _ rfl rfl w.heap.size 0 (List.replicate 16 (.int .i64 0)) 82 ?hg (enc l) ?hn ?hpos ?hfit (enc_one l) w.heap.size w ?hb (Nat.le_refl _) ?_); (case hg => exact heap_alloc_new w _); (case hn => rw [enc_len]; exact (Nat.min_eq_left hl).symm); (case hpos => exact fun h => ⟨rfl, at_ints (hr' _) h⟩); (case hfit => rw [enc_len]; simp; omega); (case hb => exact (Below.refl _ _).alloc (Nat.le_refl _) _); intro w1 hg1 hb1; rw [splice_whole l hl] at hg1)
    | (refine wpList_load_row rfl 82 (.tmp 2) rfl w.heap.size rfl 82 (enc (whole l)).toArray (0, 0) _ hg1.out Try.underlying82 rfl ?hi ?_); (case hi => rw [info82]; simp [enc_len, HL.out])
    | (refine wpList_store_row rfl 82 (.tmp 2) (.tmp 6) rfl w.heap.size (enc (whole l)).toArray rfl rfl 82 (enc (whole l)).toArray hg1.out ?hi rfl (enc_one' _) ?_); (case hi => rw [info82]; simp [enc_len, HL.out]))
  rw [setRow_self _ _ _ _ _ hg1.out]
  exact bodyPost_ret (v := .agg (enc (whole l)).toArray) (results_cell_row rfl _ _ w.heap.size 82 _ (0, 0) _ rfl hg1.out Try.underlying82 rfl (by rw [info82]; simp [enc_len, HL.out])) rfl ⟨rfl, hb1⟩

def vtrim (l : List Int) : List Int := (l.reverse.dropWhile (· == 0)).reverse
theorem vtrim_snoc_zero (l : List Int) : vtrim (l ++ [0]) = vtrim l := by simp [vtrim]
theorem vtrim_snoc_ne (l : List Int) (x : Int) (h : x ≠ 0) : vtrim (l ++ [x]) = l ++ [x] := by simp [vtrim, h]

theorem info3' : (Try.prog.info? 3).map (fun i => (i.zero, i.size, i.bytes)) = some (some (.int .i64 0), 1, 8) := by kernel_rfl

set_option maxHeartbeats 800000 in
/-- slices.Clone of a slice that is read, not nil. -/
theorem clone_int (ad : Addr) (c0 : Nat) (l : List Int) (w : World) (hr : Kd.C (Kd.int .i64) w (some ad) l.length l) (hc : l.length ≤ c0) (hl : l.length ≤ 1000) :
    Calls Try.prog 78 #[.slice (some ad) l.length c0] w fun e w' => ∃ v, e = .returned v ∧ Kd.R (Kd.int .i64) 3 w' w.heap.size (fun _ => True) v l ∧ Below w.heap.size w w' := by
  obtain ⟨i0, hi, hz0, hz1, hz2⟩ := info_parts info3'
  have hr' : ∀ o, Kd.C (Kd.int .i64) (w.alloc o) (some ad) l.length l := fun o => Kd.C_alloc hr o
  clear hr
  have heq : ∀ w, (binOp .eql 28 (.slice (some ad) l.length c0) (.slice none 0 0)).run Try.prog w = .ok (.bool false) w := fun w => Lib.run_eql_slice_nil w 28 3 (some ad) l.length c0 0 0 Try.underlying28
  go_enter Try.func78, Try.ntmps78
  go_wp2_with (at_builtin; go_loud (refine Kd.R_append_row (P := Try.prog) (Value.int .i64) 0 (w0 := w) (h1 := fun _ => rfl) w.heap.size rfl (.tmp 5) (.tmp 6) 28 3 (.int .i64 0) 8 rfl Try.underlying28 info3' rfl (by decide) _ [] l _ _ _ (fun _ => True) rfl rfl (fun _ _ => trivial) ?HO ?HR ?HB ?hb ?hl ?_); (case HR => exact hr' _); (case HB => exact (Below.refl _ _).alloc (Nat.le_refl _) _); (case hb => simp); (case hl => simp; omega); (case HO => exact Kd.R_of_own (xs := []) ⟨rfl, .inr ⟨w.heap.size, 0, #[], rfl, Nat.le_refl _, heap_alloc_new w _, Nat.le_refl _, by simp [maxLen], rfl, rfl⟩⟩ (fun _ _ => trivial)); intro v1 w1 hR hb1 hg1 hat1; clear hg1 hat1; rw [List.nil_append] at hR)
  go_ret
  exact ⟨v1, rfl, hR, hb1⟩

theorem heap_cell {w : World} {g : Nat} {cs : List Value} {t : TypeId} (h : w.heap[g]? = some (.cells cs.toArray t (0, 0))) (k : Nat) : w.cell? ⟨g, k, none⟩ = cs[k]? := by
  rw [cell_of_row w g k _ _ _ h]; simp
theorem C_of_row {w : World} {g : Nat} {l : List Int} {t : TypeId} {fr : Nat × Nat} (h : w.heap[g]? = some (.cells (enc l).toArray t fr)) (n : Nat) (hn : n ≤ l.length) (hl : l.length ≤ 1000) : Kd.C (Kd.int .i64) w (some ⟨g, 0, none⟩) n (l.take n) := by
  refine Kd.C_of_reads (d := (0 : Int)) ⟨by simp; omega, by omega, fun _ => ⟨_, rfl, fun j hj => ?_⟩⟩
  have e : (⟨g, 0, none⟩ : Addr).add j = ⟨g, j, none⟩ := by unfold Addr.add; split <;> simp_all
  have hj' : j < l.length := by omega
  rw [e, cell_of_row w g j _ _ _ h]
  simp [enc, hj, hj', List.getElem?_take]

set_option maxHeartbeats 1600000 in
theorem trim_calls (l : List Int) (w : World) (hl : l.length = 16) :
    Calls Try.prog 73 #[.agg (enc l).toArray] w fun e w' => ∃ v, e = .returned v ∧ Kd.R (Kd.int .i64) 3 w' w.heap.size (fun _ => True) v (vtrim l) ∧ Below w.heap.size w w' := by
  have H1 : ∀ k : Nat, k < 16 → (w.alloc (.cells (enc l).toArray 82)).cell? ⟨w.heap.size, k, none⟩ = some (.int .i64 (l.getD k 0)) := by
    intro k hk
    rw [World.cell?_alloc_new]
    simp [enc, List.getD, hl, hk]
  have H1' := Lib.hid H1; clear H1
  have HL := Lib.hid hl; clear hl
  go_enter Try.func73, Try.ntmps73
  go_wp2
  go_loop [3] (fun n => ∃ k : Nat, k ≤ 16 ∧ n = .int .i64 k ∧ vtrim (l.take k) = vtrim l) (fun n => (intOf n).toNat)
  case atStart => exact ⟨16, Nat.le_refl _, rfl, by rw [List.take_of_length_le (by rw [HL.out]; omega)]⟩
  case round =>
    obtain ⟨k, hk, rfl, hv⟩ := hrel
    have HV := Lib.hid hv; clear hv
    by_cases h0 : 0 < k
    · have h0b : decide (0 < (k : Int)) = true := by simpa using h0
      obtain ⟨j, rfl⟩ : ∃ j, k = j + 1 := ⟨k - 1, by omega⟩
      have hc := H1'.out j (by omega)
      have hjl : j < l.length := by rw [HL.out]; omega
      have hts : l.take (j + 1) = l.take j ++ [l.getD j 0] := by rw [List.take_succ_eq_append_getElem hjl]; simp [hjl]
      have HTS := Lib.hid hts; clear hts
      by_cases hz : l.getD j 0 = 0
      · rw [hz] at hc
        have HZ := Lib.hid hz; clear hz
        go_wp2
        go_round
        case rel => exact ⟨j, by omega, rfl, by rw [← HV.out, HTS.out, HZ.out, vtrim_snoc_zero]⟩
        case measure => simp [intOf]
      · have hk1 : (j : Int) + 1 ≤ 16 := by omega
        have hk2 : (j : Int) < 16 := by omega
        have hk0 : (0 : Int) ≤ (j : Int) + 1 := by omega
        have hkn : ((j : Int) + 1).toNat = j + 1 := by omega
        have hz' : (l.getD j 0 == 0) = false := beq_eq_false_iff_ne.2 hz
        have hend : l.take (j + 1) = vtrim l := by rw [← HV.out, HTS.out, vtrim_snoc_ne _ _ hz]
        have HE := Lib.hid hend; clear hend
        have hq := clone_int ⟨w.heap.size, 0, none⟩ 16 (l.take (j + 1)) (w.alloc (.cells (enc l).toArray 82)) (by rw [List.length_take, Nat.min_eq_left (by omega)]; exact C_of_row (heap_alloc_new w _) (j + 1) (by omega) (by rw [HL.out]; omega)) (by simp; omega) (by simp; omega)
        rw [show (l.take (j + 1)).length = j + 1 by rw [List.length_take, Nat.min_eq_left (by omega)]] at hq
        clear hz
        generalize hx : l.getD j 0 = x at *
        clear hx
        go_wp2_with (go_at_call 78; refine hq.mono ?_; rintro e w1 ⟨v, rfl, hR, hb⟩)
        go_ret
        exact ⟨v, rfl, HE.out ▸ Kd.R_lower hR (by simp), ((Below.refl _ _).alloc (Nat.le_refl _) _).trans (hb.mono (by simp))⟩
    · obtain rfl : k = 0 := by omega
      have hend : ([] : List Int) = vtrim l := by rw [← HV.out]; rfl
      have HE := Lib.hid hend; clear hend
      have hq := clone_int ⟨w.heap.size, 0, none⟩ 16 [] (w.alloc (.cells (enc l).toArray 82)) (Kd.C_of_reads (d := (0 : Int)) ⟨rfl, by simp, fun h => by simp at h⟩) (by simp) (by simp)
      simp only [List.length_nil] at hq
      rw [show ((0 : Nat) : Int) = 0 from rfl]
      go_wp2_with (go_at_call 78; refine hq.mono ?_; rintro e w1 ⟨v, rfl, hR, hb⟩)
      go_ret
      exact ⟨v, rfl, HE.out ▸ Kd.R_lower hR (by simp), ((Below.refl _ _).alloc (Nat.le_refl _) _).trans (hb.mono (by simp))⟩
end Go.Proofs.Ytipmoncamnafbaa.X
