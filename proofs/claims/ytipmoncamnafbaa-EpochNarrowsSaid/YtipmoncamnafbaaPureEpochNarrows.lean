/- The plain side of EpochNarrows: what is narrowed is as it was, narrowed again, and so on; for all whole numbers of 64 bits. -/
import Derived.Test.YtipmoncamnafbaaX3
import Derived.Test.YtipmoncamnafbaaPl1
set_option linter.unusedVariables false
set_option linter.unusedSimpArgs false
namespace Go.Proofs.Ytipmoncamnafbaa.Pure
open Go.RowKit Go.Proofs.Ytipmoncamnafbaa.X Go.Proofs.YtipmoncamnafbaaW.PrintWords Go.Proofs.YtipmoncamnafbaaW.PrintLast

theorem kind_norm (a : Int) : ∃ q : Int, Int.tmod (wrap64 (Int.tmod a 6 + 6)) 6 = q ∧ 0 ≤ q ∧ q < 6 := by
  refine ⟨_, rfl, ?_⟩
  have h : -6 < Int.tmod a 6 ∧ Int.tmod a 6 < 6 := by
    rw [tmod_cases]; split <;> omega
  rw [wrap64_id (by omega) (by omega), tmod_cases, if_pos (by omega)]
  omega
theorem narrow_in (v q : Int) (h0 : 0 ≤ q) (h1 : q < 6) : epoch_Narrow.f v q = some (nar q v, 0) := by
  unfold epoch_Narrow.f
  rw [if_neg (by omega), if_neg (by omega)]

theorem shl8 (m : Int) (h1 : -1000 < m) (h2 : m < 1000) : shl .i64 m 8 = m * 256 := by
  unfold shl; rw [i64_w, show ((2 : Int) ^ min (8 : Int).toNat IntKind.i64.bits) = 256 from rfl]; exact wrap64_id (by omega) (by omega)
theorem shl16 (m : Int) (h1 : -1000 < m) (h2 : m < 1000) : shl .i64 m 16 = m * 65536 := by
  unfold shl; rw [i64_w, show ((2 : Int) ^ min (16 : Int).toNat IntKind.i64.bits) = 65536 from rfl]; exact wrap64_id (by omega) (by omega)
theorem shl32 (m : Int) (h1 : -1000 < m) (h2 : m < 1000) : shl .i64 m 32 = m * 4294967296 := by
  unfold shl; rw [i64_w, show ((2 : Int) ^ min (32 : Int).toNat IntKind.i64.bits) = 4294967296 from rfl]; exact wrap64_id (by omega) (by omega)
theorem sh_up (k : Nat) (v : Int) (b : Nat) (n p : Int) (h : n = b) (hb : b ≤ 64) (hp : (2 : Int) ^ b = p) : epoch_Shift.f (k + 1) v n = some (wrap64 (v * p), 0) := by
  subst h hp
  rw [shift_in k v b (by omega) (by omega), if_neg (by omega)]; rfl
theorem sh_down (k : Nat) (v : Int) (b : Nat) (n p : Int) (h : n = -b) (h0 : 0 < b) (hb : b ≤ 64) (hp : (2 : Int) ^ b = p) : epoch_Shift.f (k + 1) v n = some (v / p, 0) := by
  subst h hp
  rw [shift_in k v (-(b : Int)) (by omega) (by omega), if_pos (by omega), Int.neg_neg]; rfl
theorem nars_end (k : Nat) (v kind kk q m s q2 : Int) (hq : Int.tmod (wrap64 (Int.tmod kind 6 + 6)) 6 = q) (hm : Int.tmod kk 1000 = m) (hv1 : -9223372036854775808 ≤ v) (hv2 : v ≤ 9223372036854775807) (hq0 : 0 ≤ q) (hq1 : q < 6) (b : Nat) (N M p : Int) (hrd : rd [8, 8, 16, 16, 32, 32] q = b) (hb : b ≤ 32) (hb0 : 0 < b)
    (hshl : shl .i64 m b = m * N) (hp : (2 : Int) ^ (64 - b) = p) (hq2 : wrap64 (q - Int.tmod q 2) = q2) (h20 : 0 ≤ q2) (h21 : q2 < 6)
    (e1 : nar q (nar q v) = nar q v) (e2 : nar q (wrap64 (v + m * N)) = nar q v) (e3 : wrap64 (v * p) / p = nar q2 v) :
    plaitlaw02_EpochNarrows.f (k + 1) v kind kk = some true := by
  unfold plaitlaw02_EpochNarrows.f
  rw [hq, hm]
  rw [narrow_in v q hq0 hq1]
  simp only [Option.bind_some]
  rw [narrow_in _ q hq0 hq1]
  simp only [Option.bind_some]
  rw [if_pos hq0, if_pos (show q < (([8, 8, 16, 16, 32, 32] : List Int).length : Int) from hq1), hrd, if_pos (by omega), hshl, narrow_in _ q hq0 hq1, wrap64_id (a := 64 - (b : Int)) (by omega) (by omega), wrap64_id (a := (b : Int) - 64) (by omega) (by omega), hq2, narrow_in v q2 h20 h21,
    sh_up k v (64 - b) (64 - (b : Int)) p (by omega) (by omega) hp]
  simp only [Option.bind_some]
  rw [sh_down k _ (64 - b) ((b : Int) - 64) p (by omega) (by omega) (by omega) hp, sh_up k v 64 64 18446744073709551616 rfl (by omega) rfl, sh_down k v 64 (-64) 18446744073709551616 rfl (by omega) (by omega) rfl, alive2 k]
  simp only [Option.bind_some]
  rw [e1, e2, e3, show wrap64 (v * 18446744073709551616) = 0 by unfold wrap64; omega]
  by_cases h : v < 0
  · rw [if_pos h]; simp; omega
  · rw [if_neg h]; simp; omega
theorem EpochNarrows : plaitlaw02_EpochNarrows.Pure := by
  intro v kind k hv _ hk
  obtain ⟨hv1, hv2⟩ := wf_i64 hv
  obtain ⟨hk1, hk2⟩ := wf_i64 hk
  obtain ⟨q, hq, hq0, hq1⟩ := kind_norm kind
  refine ⟨100, ?_⟩
  have hm : -1000 < Int.tmod k 1000 ∧ Int.tmod k 1000 < 1000 := by
    rw [tmod_cases]; split <;> omega
  obtain ⟨m, hmm⟩ : ∃ m, Int.tmod k 1000 = m := ⟨_, rfl⟩
  rw [hmm] at hm
  obtain ⟨m1, m2⟩ := hm
  have hkk : q = 0 ∨ q = 1 ∨ q = 2 ∨ q = 3 ∨ q = 4 ∨ q = 5 := by omega
  have w0 : ∀ x y : Int, Int.tmod x 2 = y → ∀ z, x - y = z → -9223372036854775808 ≤ z → z ≤ 9223372036854775807 → wrap64 (x - Int.tmod x 2) = z := by
    intro x y h z h2 h3 h4; rw [h, h2]; exact wrap64_id h3 h4
  rcases hkk with rfl | rfl | rfl | rfl | rfl | rfl
  · exact nars_end 99 v kind k 0 m 0 0 hq hmm hv1 hv2 (by omega) (by omega) 8 256 128 72057594037927936 rfl (by omega) (by omega) (shl8 m m1 m2) rfl (w0 0 0 rfl 0 rfl (by omega) (by omega)) (by omega) (by omega) (by first | (simp only [nar, wrap64]; done) | (simp only [nar, wrap64]; simp; done) | (simp only [nar, wrap64]; simp; omega)) (by first | (simp only [nar, wrap64]; done) | (simp only [nar, wrap64]; simp; done) | (simp only [nar, wrap64]; simp; omega)) (by first | (simp only [nar, wrap64]; done) | (simp only [nar, wrap64]; simp; done) | (simp only [nar, wrap64]; simp; omega))
  · exact nars_end 99 v kind k 1 m 0 0 hq hmm hv1 hv2 (by omega) (by omega) 8 256 128 72057594037927936 rfl (by omega) (by omega) (shl8 m m1 m2) rfl (w0 1 1 rfl 0 rfl (by omega) (by omega)) (by omega) (by omega) (by first | (simp only [nar, wrap64]; done) | (simp only [nar, wrap64]; simp; done) | (simp only [nar, wrap64]; simp; omega)) (by first | (simp only [nar, wrap64]; done) | (simp only [nar, wrap64]; simp; done) | (simp only [nar, wrap64]; simp; omega)) (by first | (simp only [nar, wrap64]; done) | (simp only [nar, wrap64]; simp; done) | (simp only [nar, wrap64]; simp; omega))
  · exact nars_end 99 v kind k 2 m 0 2 hq hmm hv1 hv2 (by omega) (by omega) 16 65536 128 281474976710656 rfl (by omega) (by omega) (shl16 m m1 m2) rfl (w0 2 0 rfl 2 rfl (by omega) (by omega)) (by omega) (by omega) (by first | (simp only [nar, wrap64]; done) | (simp only [nar, wrap64]; simp; done) | (simp only [nar, wrap64]; simp; omega)) (by first | (simp only [nar, wrap64]; done) | (simp only [nar, wrap64]; simp; done) | (simp only [nar, wrap64]; simp; omega)) (by first | (simp only [nar, wrap64]; done) | (simp only [nar, wrap64]; simp; done) | (simp only [nar, wrap64]; simp; omega))
  · exact nars_end 99 v kind k 3 m 0 2 hq hmm hv1 hv2 (by omega) (by omega) 16 65536 128 281474976710656 rfl (by omega) (by omega) (shl16 m m1 m2) rfl (w0 3 1 rfl 2 rfl (by omega) (by omega)) (by omega) (by omega) (by first | (simp only [nar, wrap64]; done) | (simp only [nar, wrap64]; simp; done) | (simp only [nar, wrap64]; simp; omega)) (by first | (simp only [nar, wrap64]; done) | (simp only [nar, wrap64]; simp; done) | (simp only [nar, wrap64]; simp; omega)) (by first | (simp only [nar, wrap64]; done) | (simp only [nar, wrap64]; simp; done) | (simp only [nar, wrap64]; simp; omega))
  · exact nars_end 99 v kind k 4 m 0 4 hq hmm hv1 hv2 (by omega) (by omega) 32 4294967296 128 4294967296 rfl (by omega) (by omega) (shl32 m m1 m2) rfl (w0 4 0 rfl 4 rfl (by omega) (by omega)) (by omega) (by omega) (by first | (simp only [nar, wrap64]; done) | (simp only [nar, wrap64]; simp; done) | (simp only [nar, wrap64]; simp; omega)) (by first | (simp only [nar, wrap64]; done) | (simp only [nar, wrap64]; simp; done) | (simp only [nar, wrap64]; simp; omega)) (by first | (simp only [nar, wrap64]; done) | (simp only [nar, wrap64]; simp; done) | (simp only [nar, wrap64]; simp; omega))
  · exact nars_end 99 v kind k 5 m 0 4 hq hmm hv1 hv2 (by omega) (by omega) 32 4294967296 128 4294967296 rfl (by omega) (by omega) (shl32 m m1 m2) rfl (w0 5 1 rfl 4 rfl (by omega) (by omega)) (by omega) (by omega) (by first | (simp only [nar, wrap64]; done) | (simp only [nar, wrap64]; simp; done) | (simp only [nar, wrap64]; simp; omega)) (by first | (simp only [nar, wrap64]; done) | (simp only [nar, wrap64]; simp; done) | (simp only [nar, wrap64]; simp; omega)) (by first | (simp only [nar, wrap64]; done) | (simp only [nar, wrap64]; simp; done) | (simp only [nar, wrap64]; simp; omega))
end Go.Proofs.Ytipmoncamnafbaa.Pure
