import Derived.Test.YtipmoncamnafbaaG5
import Derived.Laws.EntriesVeiled
set_option linter.unusedVariables false
set_option linter.unusedSimpArgs false
namespace Go.Proofs.Ytipmoncamnafbaa.X
open Go.RowKit Go.Proofs.YtipmoncamnafbaaW.PrintWords Go.Proofs.YtipmoncamnafbaaW.PrintLast Go.Proofs.YtipmoncamnafbaaW.PrintMore

def nar (kind v : Int) : Int := if kind = 0 then (v + 128) % 256 - 128 else if kind = 1 then v % 256 else if kind = 2 then (v + 32768) % 65536 - 32768 else if kind = 3 then v % 65536 else if kind = 4 then (v + 2147483648) % 4294967296 - 2147483648 else v % 4294967296
theorem nar60 (v : Int) (w : World) : Calls Try.prog 60 #[.int .i64 v] w fun e w' => e = .returned (.int .i64 ((v + 128) % 256 - 128)) ∧ w = w' := by
  go_enter Try.func60, Try.ntmps60
  go_wp2
  go_ret
  refine ⟨?_, rfl⟩
  first | rfl | (show Ending.returned (.int .i64 _) = _; congr 2; first | (unfold wrap64 wrap32; omega) | (simp only [IntKind.wrap, wrap64, wrap32, IntKind.signed, IntKind.bits]; simp; omega))
theorem nar61 (v : Int) (w : World) : Calls Try.prog 61 #[.int .i64 v] w fun e w' => e = .returned (.int .i64 (v % 256)) ∧ w = w' := by
  go_enter Try.func61, Try.ntmps61
  go_wp2
  go_ret
  refine ⟨?_, rfl⟩
  first | rfl | (show Ending.returned (.int .i64 _) = _; congr 2; first | (unfold wrap64 wrap32; omega) | (simp only [IntKind.wrap, wrap64, wrap32, IntKind.signed, IntKind.bits]; simp; omega))
theorem nar62 (v : Int) (w : World) : Calls Try.prog 62 #[.int .i64 v] w fun e w' => e = .returned (.int .i64 ((v + 32768) % 65536 - 32768)) ∧ w = w' := by
  go_enter Try.func62, Try.ntmps62
  go_wp2
  go_ret
  refine ⟨?_, rfl⟩
  first | rfl | (show Ending.returned (.int .i64 _) = _; congr 2; first | (unfold wrap64 wrap32; omega) | (simp only [IntKind.wrap, wrap64, wrap32, IntKind.signed, IntKind.bits]; simp; omega))
theorem nar63 (v : Int) (w : World) : Calls Try.prog 63 #[.int .i64 v] w fun e w' => e = .returned (.int .i64 (v % 65536)) ∧ w = w' := by
  go_enter Try.func63, Try.ntmps63
  go_wp2
  go_ret
  refine ⟨?_, rfl⟩
  first | rfl | (show Ending.returned (.int .i64 _) = _; congr 2; first | (unfold wrap64 wrap32; omega) | (simp only [IntKind.wrap, wrap64, wrap32, IntKind.signed, IntKind.bits]; simp; omega))
theorem nar64 (v : Int) (w : World) : Calls Try.prog 64 #[.int .i64 v] w fun e w' => e = .returned (.int .i64 ((v + 2147483648) % 4294967296 - 2147483648)) ∧ w = w' := by
  go_enter Try.func64, Try.ntmps64
  go_wp2
  go_ret
  refine ⟨?_, rfl⟩
  first | rfl | (show Ending.returned (.int .i64 _) = _; congr 2; first | (unfold wrap64 wrap32; omega) | (simp only [IntKind.wrap, wrap64, wrap32, IntKind.signed, IntKind.bits]; simp; omega))
theorem nar65 (v : Int) (w : World) : Calls Try.prog 65 #[.int .i64 v] w fun e w' => e = .returned (.int .i64 (v % 4294967296)) ∧ w = w' := by
  go_enter Try.func65, Try.ntmps65
  go_wp2
  go_ret
  refine ⟨?_, rfl⟩
  first | rfl | (show Ending.returned (.int .i64 _) = _; congr 2; first | (unfold wrap64 wrap32; omega) | (simp only [IntKind.wrap, wrap64, wrap32, IntKind.signed, IntKind.bits]; simp; omega))

def epoch_Narrow.f (a0 : Int) (a1 : Int) : Option (Int × Int) := some (if a1 < 0 then (0, 1) else if 6 ≤ a1 then (0, 1) else (nar a1 a0, 0))
set_option maxHeartbeats 3200000 in
theorem epoch_Narrow.calls (a0 : Int) (a1 : Int) (r1 : Int) (r2 : Int) (w : World) (h : epoch_Narrow.f a0 a1 = some (r1, r2)) :
    Calls Try.prog 16 #[.int .i64 a0, .int .i64 a1] w fun e w' => e = .returned (.tuple #[.int .i64 r1, .int .i64 r2]) ∧ Below w.heap.size w w' := by
  have h' := Option.some.inj h
  clear h
  by_cases h0 : a1 < 0
  · rw [if_pos h0] at h'; cases h'
    have h0b : decide (a1 < 0) = true := by simpa using h0
    clear h0
    go_enter Try.func16, Try.ntmps16
    go_wp2
    go_ret2
    exact ⟨rfl, Below.refl _ _⟩
  rw [if_neg h0] at h'
  by_cases h1 : 6 ≤ a1
  · rw [if_pos h1] at h'; cases h'
    have h0b : decide (a1 < 0) = false := by simpa using h0
    have h1b : decide (6 ≤ a1) = true := by simpa using h1
    clear h0 h1
    go_enter Try.func16, Try.ntmps16
    go_wp2
    go_ret2
    exact ⟨rfl, Below.refl _ _⟩
  rw [if_neg h1] at h'
  have hz : ∀ w, (zeroValue 74).run Try.prog w = .ok (.agg #[.nilFunc, .nilFunc, .nilFunc, .nilFunc, .nilFunc, .nilFunc]) w := fun _ => by kernel_rfl
  have hi74 : (Try.prog.info? 74).map (·.size) = some 6 := by kernel_rfl
  by_cases k0 : a1 = 0
  · subst k0
    cases h'
    clear h0 h1
    have hq := nar60 a0
    go_enter Try.func16, Try.ntmps16
    go_wp2_with (go_at_call 60; refine (hq _).mono ?_; rintro e w5 ⟨rfl, rfl⟩)
    go_ret2
    exact ⟨rfl, (Below.refl _ _).alloc (Nat.le_refl _) _⟩
  by_cases k1 : a1 = 1
  · subst k1
    cases h'
    clear h0 h1
    have hq := nar61 a0
    go_enter Try.func16, Try.ntmps16
    go_wp2_with (go_at_call 61; refine (hq _).mono ?_; rintro e w5 ⟨rfl, rfl⟩)
    go_ret2
    exact ⟨rfl, (Below.refl _ _).alloc (Nat.le_refl _) _⟩
  by_cases k2 : a1 = 2
  · subst k2
    cases h'
    clear h0 h1
    have hq := nar62 a0
    go_enter Try.func16, Try.ntmps16
    go_wp2_with (go_at_call 62; refine (hq _).mono ?_; rintro e w5 ⟨rfl, rfl⟩)
    go_ret2
    exact ⟨rfl, (Below.refl _ _).alloc (Nat.le_refl _) _⟩
  by_cases k3 : a1 = 3
  · subst k3
    cases h'
    clear h0 h1
    have hq := nar63 a0
    go_enter Try.func16, Try.ntmps16
    go_wp2_with (go_at_call 63; refine (hq _).mono ?_; rintro e w5 ⟨rfl, rfl⟩)
    go_ret2
    exact ⟨rfl, (Below.refl _ _).alloc (Nat.le_refl _) _⟩
  by_cases k4 : a1 = 4
  · subst k4
    cases h'
    clear h0 h1
    have hq := nar64 a0
    go_enter Try.func16, Try.ntmps16
    go_wp2_with (go_at_call 64; refine (hq _).mono ?_; rintro e w5 ⟨rfl, rfl⟩)
    go_ret2
    exact ⟨rfl, (Below.refl _ _).alloc (Nat.le_refl _) _⟩
  · obtain rfl : a1 = 5 := by omega
    cases h'
    clear h0 h1
    have hq := nar65 a0
    go_enter Try.func16, Try.ntmps16
    go_wp2_with (go_at_call 65; refine (hq _).mono ?_; rintro e w5 ⟨rfl, rfl⟩)
    go_ret2
    exact ⟨rfl, (Below.refl _ _).alloc (Nat.le_refl _) _⟩
end Go.Proofs.Ytipmoncamnafbaa.X
