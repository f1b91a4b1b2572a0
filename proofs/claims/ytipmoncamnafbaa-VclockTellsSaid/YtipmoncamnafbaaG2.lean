import Derived.Test.YtipmoncamnafbaaG1
import Derived.LoopTactic
set_option linter.unusedVariables false
set_option linter.unusedSimpArgs false
namespace Go.Proofs.Ytipmoncamnafbaa.X
open Go.RowKit Go.Proofs.YtipmoncamnafbaaW.PrintWords Go.Proofs.YtipmoncamnafbaaW.PrintLast Go.Proofs.YtipmoncamnafbaaW.PrintMore

def IdxPostB (b : Bool) (w : World) (e : Ending) (w' : World) : Prop := ∃ i : Int, e = .returned (.int .i64 i) ∧ (0 ≤ i ↔ b = true) ∧ Below w.heap.size w w'

set_option maxHeartbeats 1600000 in
theorem indexFunc_slices (fv : Nat) (cap : Array Value) (ad : Addr) (c0 : Nat) (vs : List (Value × Bool)) (w : World)
    (hcell : ∀ k (h : k < vs.length), ∀ W, Below w.heap.size w W → W.cell? (ad.add k) = some vs[k].1) (hm : vs.length ≤ 9223372036854775807)
    (he : ∀ (args : Array Value) (w : World), (callFunc fv args).run Try.prog w = .ok (.enter fv args) w)
    (hp : ∀ x ∈ vs, ∀ W, Below w.heap.size w W → Calls Try.prog fv (#[x.1] ++ cap) W fun e w' => e = .returned (.bool x.2) ∧ Below W.heap.size W w') :
    Calls Try.prog 81 #[.slice (some ad) vs.length c0, .func (.func fv) #[] cap] w (IdxPostB (vs.any Prod.snd) w) := by
  have HC := Lib.hid hcell; clear hcell
  have HP := Lib.hid hp; clear hp
  go_enter Try.func81, Try.ntmps81
  go_wp2
  go_loopw [5, 8] (fun _ i wr => ∃ k : Nat, k ≤ vs.length ∧ i = .int .i64 k ∧ (vs.take k).any Prod.snd = false ∧ Below w.heap.size w wr) (fun _ i _ => vs.length - (intOf i).toNat)
  case atStart => exact ⟨0, Nat.zero_le _, rfl, rfl, Below.refl _ _⟩
  case round =>
    obtain ⟨k, hk, rfl, hno, hB⟩ := hrel
    have HN := Lib.hid hno; clear hno
    have HB := Lib.hid hB; clear hB
    by_cases hlt : k < vs.length
    · have hx := HC.out k hlt _ HB.out
      have hq := HP.out vs[k] (List.getElem_mem hlt) _ HB.out
      obtain ⟨x, hv⟩ : ∃ x, x = vs[k] := ⟨_, rfl⟩
      rw [← hv] at hx hq
      have HV := Lib.hid hv; clear hv
      by_cases hpx : x.2 = true
      · go_wp2_with ((with_reducible refine hq.mono ?_); rintro e w1 ⟨rfl, hb1⟩)
        go_ret
        exact ⟨k, rfl, ⟨fun _ => List.any_eq_true.2 ⟨x, HV.out.symm ▸ List.getElem_mem hlt, hpx⟩, fun _ => by omega⟩, HB.out.trans (hb1.mono HB.out.size)⟩
      · have hpx' : x.2 = false := by simpa using hpx
        clear hpx
        go_wp2_with ((with_reducible refine hq.mono ?_); rintro e w1 ⟨rfl, hb1⟩)
        go_roundw
        case rel => exact ⟨k + 1, by omega, by go_num, by rw [take_any_snoc Prod.snd vs k hlt, HN.out, ← HV.out, hpx']; rfl, HB.out.trans (hb1.mono HB.out.size)⟩
        case measure => simp [intOf]; omega
    · go_wp2
      go_ret
      exact ⟨-1, rfl, ⟨fun h => by omega, fun h => by rw [List.take_of_length_le (by omega)] at HN; rw [HN.out] at h; cases h⟩, HB.out⟩

set_option maxHeartbeats 800000 in
theorem containsFunc_slices (fv : Nat) (cap : Array Value) (ad : Addr) (c0 : Nat) (vs : List (Value × Bool)) (w : World)
    (hcell : ∀ k (h : k < vs.length), ∀ W, Below w.heap.size w W → W.cell? (ad.add k) = some vs[k].1) (hm : vs.length ≤ 9223372036854775807)
    (he : ∀ (args : Array Value) (w : World), (callFunc fv args).run Try.prog w = .ok (.enter fv args) w)
    (hp : ∀ x ∈ vs, ∀ W, Below w.heap.size w W → Calls Try.prog fv (#[x.1] ++ cap) W fun e w' => e = .returned (.bool x.2) ∧ Below W.heap.size W w') :
    Calls Try.prog 76 #[.slice (some ad) vs.length c0, .func (.func fv) #[] cap] w fun e w' => e = .returned (.bool (vs.any Prod.snd)) ∧ Below w.heap.size w w' := by
  have hq := indexFunc_slices fv cap ad c0 vs w hcell hm he hp
  clear hp hcell
  generalize hb : vs.any Prod.snd = b at *
  clear hb
  go_enter Try.func76, Try.ntmps76
  go_wp2_with (go_at_call 81; refine hq.mono ?_; rintro e w' ⟨i, rfl, hi, hbl⟩; have HI := Lib.hid hi; clear hi)
  go_ret
  exact ⟨by rw [decide_iff_bool HI.out]; rfl, hbl⟩

/-- all[[]int]$1 at Right -/
theorem all1s (A0 : Option Addr) (c0 : Nat) (l : List Int) (a : Addr) (w : World) (hr : Kd.C (Kd.int .i64) w A0 l.length l) (hc : l.length ≤ c0) (hcell : w.cell? a = some (.func (.func 54) #[] #[])) :
    Calls Try.prog 77 #[.slice A0 l.length c0, .pointer (some a)] w fun e w' => e = .returned (.bool (!vok l)) ∧ Below w.heap.size w w' := by
  have hq := vclock_Right.calls A0 c0 l _ w hr hc rfl
  clear hr
  go_enter Try.func77, Try.ntmps77
  go_wp2_with (go_at_call 54; refine hq.mono ?_; rintro e w' ⟨rfl, hb⟩)
  go_ret
  exact ⟨rfl, hb⟩
theorem enters77 : ∀ (args : Array Value) (w : World), (callFunc 77 args).run Try.prog w = .ok (.enter 77 args) w := enters_of Try.func77 (by kernel_rfl) rfl

/-- all[[]int](Right, a, b): the two slices lie in a new row. -/
theorem all_two (A0 : Option Addr) (c0 : Nat) (l0 : List Int) (A1 : Option Addr) (c1 : Nat) (l1 : List Int) (ad : Addr) (c : Nat) (w : World)
    (hr0 : Kd.C (Kd.int .i64) w A0 l0.length l0) (hc0 : l0.length ≤ c0) (hr1 : Kd.C (Kd.int .i64) w A1 l1.length l1) (hc1 : l1.length ≤ c1)
    (h0 : w.cell? ad = some (.slice A0 l0.length c0)) (h1 : w.cell? (ad.add 1) = some (.slice A1 l1.length c1)) :
    Calls Try.prog 71 #[.func (.func 54) #[] #[], .slice (some ad) 2 c] w fun e w' => e = .returned (.bool (vok l0 && vok l1)) ∧ Below w.heap.size w w' := by
  have hmf : ∀ (fn : Fn) (first cap : Array Value) (w : World), (Instr.makeFunc fn first cap).run Try.prog w = .ok (.func fn first cap) w := fun _ _ _ _ => rfl
  have hb0 := World.block_lt_of_cell? w ad h0
  have hb1 := World.block_lt_of_cell? w (ad.add 1) h1
  have hq : ∀ W : World, Below w.heap.size w W → w.heap.size < W.heap.size → W.cell? ⟨w.heap.size, 0, none⟩ = some (.func (.func 54) #[] #[]) → Calls Try.prog 76 #[.slice (some ad) 2 c, .func (.func 77) #[] #[.pointer (some ⟨w.heap.size, 0, none⟩)]] W fun e w' => e = .returned (.bool (!(vok l0 && vok l1))) ∧ Below W.heap.size W w' := by
    intro W hb hlt hcell
    have hq := containsFunc_slices 77 #[.pointer (some ⟨w.heap.size, 0, none⟩)] ad c [(.slice A0 l0.length c0, !vok l0), (.slice A1 l1.length c1, !vok l1)] W ?_ (by simp) enters77 ?_
    · refine hq.mono ?_
      rintro e w' ⟨rfl, hb'⟩
      exact ⟨by simp [Bool.not_and], hb'⟩
    · intro k hk W1 hb1'
      have hbb := hb.trans (hb1'.mono hb.size)
      match k, hk with
      | 0, _ => exact (hbb.cell (p := ad) hb0).trans h0
      | 1, _ => exact (hbb.cell (p := ad.add 1) hb1).trans h1
    · intro x hx W1 hb1'
      have hbb := hb.trans (hb1'.mono hb.size)
      have hcell1 : W1.cell? ⟨w.heap.size, 0, none⟩ = some (.func (.func 54) #[] #[]) := (hb1'.cell (p := ⟨w.heap.size, 0, none⟩) hlt).trans hcell
      simp only [List.mem_cons, List.not_mem_nil, or_false] at hx
      rcases hx with rfl | rfl
      · exact all1s A0 c0 l0 _ W1 (Kd.C_below hr0 hbb) hc0 hcell1
      · exact all1s A1 c1 l1 _ W1 (Kd.C_below hr1 hbb) hc1 hcell1
  have HQ := Lib.hid hq
  clear hq hr0 hr1 h0 h1
  go_enter Try.func71, Try.ntmps71
  go_wp2_with (go_at_call 76; refine (HQ.out _ ((Below.refl _ _).alloc (Nat.le_refl _) _) (by simp) (by go_simp)).mono ?_; rintro e w' ⟨rfl, hb⟩)
  go_ret
  exact ⟨rfl, ((Below.refl _ _).alloc (Nat.le_refl _) _).trans (hb.mono (by simp))⟩
end Go.Proofs.Ytipmoncamnafbaa.X
