import Derived.Test.YtipmoncamnafbaaU
import Derived.LoopN
set_option linter.unusedVariables false
set_option linter.unusedSimpArgs false
namespace Go.Proofs.Ytipmoncamnafbaa.X
open Go.RowKit Go.Proofs.YtipmoncamnafbaaW.PrintWords Go.Proofs.YtipmoncamnafbaaW.PrintLast Go.Proofs.YtipmoncamnafbaaW.PrintMore
def byteAt (e : Int) (k : Nat) : Int := (e / 2 ^ (8 * k)) % 256
def epoch_Bytes.f (a0 : Int) : Option (ByteArray × Int) := some (if a0 < 0 then (⟨#[]⟩, 1) else if 17592186044431 < a0 then (⟨#[]⟩, 1) else (strOfNums [byteAt a0 7, byteAt a0 6, byteAt a0 5, byteAt a0 4, byteAt a0 3, byteAt a0 2, byteAt a0 1, byteAt a0 0], 0))
def unp (a0 : Int) : Int × Int × Int := if a0 < 0 then (0, 0, 1) else if 17592186044431 < a0 then (0, 0, 1) else (a0 / 16, Go.bits .and .i64 a0 15, 0)
theorem unpack_bytes (a0 : Int) (w : World) :
    Calls Try.prog 45 #[.int .i64 a0] w fun e w' => e = .returned (.tuple #[.int .i64 (unp a0).1, .int .i64 (unp a0).2.1, .int .i64 (unp a0).2.2]) ∧ w = w' := by
  unfold unp
  by_cases h0 : a0 < 0
  · have h0b : decide (a0 < 0) = true := by simpa using h0
    rw [if_pos h0]; clear h0
    go_enter Try.func45, Try.ntmps45
    go_wp2
    go_ret3
    exact ⟨rfl, rfl⟩
  have h0b : decide (a0 < 0) = false := by simpa using h0
  rw [if_neg h0]
  by_cases h1 : 17592186044431 < a0
  · have h1b : decide (17592186044431 < a0) = true := by simpa using h1
    rw [if_pos h1]
    clear h0 h1
    go_enter Try.func45, Try.ntmps45
    go_wp2
    go_ret3
    exact ⟨rfl, rfl⟩
  have h1b : decide (17592186044431 < a0) = false := by simpa using h1
  rw [if_neg h1]
  clear h1
  go_enter Try.func45, Try.ntmps45
  go_wp2
  go_ret3
  exact ⟨rfl, rfl⟩
theorem C_of_cells (kd : IntKind) {w : World} {g : Nat} {xs : List Int} {t : TypeId} {fr : Nat × Nat} (h : w.heap[g]? = some (.cells (xs.map (Value.int kd)).toArray t fr)) (hl : xs.length ≤ 1000) : Kd.C (Kd.int kd) w (some ⟨g, 0, none⟩) xs.length xs := by
  refine Kd.C_of_reads (d := (0 : Int)) ⟨rfl, by omega, fun _ => ⟨_, rfl, fun j hj => ?_⟩⟩
  have e : (⟨g, 0, none⟩ : Addr).add j = ⟨g, j, none⟩ := by unfold Addr.add; split <;> simp_all
  rw [e, cell_of_row w g j _ _ _ h]
  simp [hj]
theorem conv8 (w : World) (b0 b1 b2 b3 b4 b5 b6 b7 : Int) : (convert 77 9 (.slice (some ⟨w.heap.size, 0, none⟩) 8 8)).run Try.prog (w.alloc (.cells #[.int .u8 b0, .int .u8 b1, .int .u8 b2, .int .u8 b3, .int .u8 b4, .int .u8 b5, .int .u8 b6, .int .u8 b7] 76)) = .ok (.string (strOfNums [b0, b1, b2, b3, b4, b5, b6, b7])) (w.alloc (.cells #[.int .u8 b0, .int .u8 b1, .int .u8 b2, .int .u8 b3, .int .u8 b4, .int .u8 b5, .int .u8 b6, .int .u8 b7] 76)) :=
  Kd.C_string (P := Try.prog) (e := 5) Try.underlying77 Try.underlying5 Try.underlying9 (C_of_cells .u8 (xs := [b0, b1, b2, b3, b4, b5, b6, b7]) (heap_alloc_new w _) (by simp))
set_option maxHeartbeats 3200000 in
theorem epoch_Bytes.calls (a0 : Int) (r1 : ByteArray) (r2 : Int) (w : World) (h : epoch_Bytes.f a0 = some (r1, r2)) :
    Calls Try.prog 22 #[.int .i64 a0] w fun e w' => e = .returned (.tuple #[.string r1, .int .i64 r2]) ∧ Below w.heap.size w w' := by
  have h' := Option.some.inj h
  clear h
  have hq := unpack_bytes a0 w
  unfold unp at hq
  by_cases h0 : a0 < 0
  · rw [if_pos h0] at h' hq; cases h'
    clear h0
    go_enter Try.func22, Try.ntmps22
    go_wp2_with (go_at_call 45; refine hq.mono ?_; rintro e w1 ⟨rfl, rfl⟩)
    go_ret2
    exact ⟨rfl, Below.refl _ _⟩
  rw [if_neg h0] at h' hq
  by_cases h1 : 17592186044431 < a0
  · rw [if_pos h1] at h' hq; cases h'
    clear h0 h1
    go_enter Try.func22, Try.ntmps22
    go_wp2_with (go_at_call 45; refine hq.mono ?_; rintro e w1 ⟨rfl, rfl⟩)
    go_ret2
    exact ⟨rfl, Below.refl _ _⟩
  rw [if_neg h1] at h' hq; cases h'
  have hz : ∀ w, (zeroValue 76).run Try.prog w = .ok (.agg #[.int .u8 0, .int .u8 0, .int .u8 0, .int .u8 0, .int .u8 0, .int .u8 0, .int .u8 0, .int .u8 0]) w := fun _ => by kernel_rfl
  have h2 : 0 ≤ a0 := by omega
  have h3 : a0 ≤ 17592186044431 := by omega
  clear h0 h1
  generalize a0 / 16 = p1 at *
  generalize Go.bits .and .i64 a0 15 = p2 at *
  go_enter Try.func22, Try.ntmps22
  go_wp2_with (go_at_call 45; refine hq.mono ?_; rintro e w1 ⟨rfl, rfl⟩)
  have hconv := conv8 w
  refine wp_loop_rounds 9 ?_
  rw [rounds_succ]; go_wp2
  rw [rounds_succ]; go_wp2
  rw [rounds_succ]; go_wp2
  rw [rounds_succ]; go_wp2
  rw [rounds_succ]; go_wp2
  rw [rounds_succ]; go_wp2
  rw [rounds_succ]; go_wp2
  rw [rounds_succ]; go_wp2
  rw [rounds_succ]; go_wp2
  go_ret2
  refine ⟨?_, (Below.refl _ _).alloc (Nat.le_refl _) _⟩
  have e : ([a0 / 72057594037927936, a0 / 281474976710656, a0 / 1099511627776, a0 / 4294967296 % 256, a0 / 16777216 % 256, a0 / 65536 % 256, a0 / 256 % 256, a0 % 256] : List Int) =
      [byteAt a0 7, byteAt a0 6, byteAt a0 5, byteAt a0 4, byteAt a0 3, byteAt a0 2, byteAt a0 1, byteAt a0 0] := by
    simp only [byteAt, Nat.reduceMul, Int.reducePow, Nat.mul_zero]
    simp
    omega
  rw [← e]; rfl
end Go.Proofs.Ytipmoncamnafbaa.X
