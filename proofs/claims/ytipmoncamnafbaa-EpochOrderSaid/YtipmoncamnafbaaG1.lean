import Derived.Test.YtipmoncamnafbaaX0
import Derived.Outline
import Derived.Lib.Hide
import Derived.Shelf.Abstract
set_option linter.unusedVariables false
set_option linter.unusedSimpArgs false
namespace Go.Proofs.Ytipmoncamnafbaa.X
open Go.RowKit Go.Proofs.YtipmoncamnafbaaW.PrintWords Go.Proofs.YtipmoncamnafbaaW.PrintLast Go.Proofs.YtipmoncamnafbaaW.PrintMore

def tickOk (x : Int) : Bool := decide (0 ≤ x) && decide (x ≤ 1099511627776)
/-- Right$1 -/
theorem right1 (x : Int) (w : World) : Calls Try.prog 75 #[.int .i64 x] w fun e w' => e = .returned (.bool (tickOk x)) ∧ w = w' := by
  by_cases h : 0 ≤ x
  · have h1 : decide (0 ≤ x) = true := by simpa using h
    go_enter Try.func75, Try.ntmps75
    go_wp2
    go_ret
    exact ⟨by simp [h, tickOk], rfl⟩
  · have h1 : decide (0 ≤ x) = false := by simpa using h
    go_enter Try.func75, Try.ntmps75
    go_wp2
    go_ret
    exact ⟨by simp [tickOk]; omega, rfl⟩
set_option maxHeartbeats 400000 in
theorem all1 (x : Int) (a : Addr) (w : World) (hc : w.cell? a = some (.func (.func 75) #[] #[])) : Calls Try.prog 80 #[.int .i64 x, .pointer (some a)] w fun e w' => e = .returned (.bool (!tickOk x)) ∧ w = w' := by
  go_enter Try.func80, Try.ntmps80
  go_wp2_with (go_at_call 75; refine (right1 _ _).mono ?_; rintro e w' ⟨rfl, rfl⟩)
  go_ret
  exact ⟨rfl, rfl⟩

theorem take_any_snoc {α : Type} (p : α → Bool) (l : List α) (k : Nat) (h : k < l.length) : (l.take (k + 1)).any p = ((l.take k).any p || p l[k]) := by
  rw [List.take_succ_eq_append_getElem h, List.any_append]; simp

def IdxPost (b : Bool) (w : World) (e : Ending) (w' : World) : Prop := ∃ i : Int, e = .returned (.int .i64 i) ∧ (0 ≤ i ↔ b = true) ∧ w = w'

set_option maxHeartbeats 800000 in
theorem indexFunc_int (fv : Nat) (cap : Array Value) (p : Int → Bool) (A0 : Option Addr) (c0 : Nat) (l : List Int) (w : World)
    (hr : Kd.C (Kd.int .i64) w A0 l.length l) (hc : l.length ≤ c0)
    (he : ∀ (args : Array Value) (w : World), (callFunc fv args).run Try.prog w = .ok (.enter fv args) w)
    (hp : ∀ x, Calls Try.prog fv (#[.int .i64 x] ++ cap) w fun e w' => e = .returned (.bool (p x)) ∧ w = w') :
    Calls Try.prog 82 #[.slice A0 l.length c0, .func (.func fv) #[] cap] w (IdxPost (l.any p) w) := by
  have hm : l.length ≤ 9223372036854775807 := hr.2.1
  go_enter Try.func82, Try.ntmps82
  go_wp2
  go_loop [5, 8] (fun _ i => ∃ k : Nat, k ≤ l.length ∧ i = .int .i64 k ∧ (l.take k).any p = false) (fun _ i => l.length - (intOf i).toNat)
  case atStart => exact ⟨0, Nat.zero_le _, rfl, rfl⟩
  case round =>
    obtain ⟨k, hk, rfl, hno⟩ := hrel
    have HN := Lib.hid hno; clear hno
    by_cases hlt : k < l.length
    · obtain ⟨ad, e, hx⟩ := Kd.at_int hr (k : Int) (by omega) (by omega)
      subst e
      have hx' : w.cell? (ad.add k) = some (.int .i64 (l[k])) := by
        have := hx; simpa [rd, hlt] using this
      clear hx
      have hq := hp (l[k])
      clear hp
      generalize hv : l[k] = x at *
      have HV := Lib.hid hv; clear hv
      by_cases hpx : p x = true
      · go_wp2_with ((with_reducible refine hq.mono ?_); rintro e w1 ⟨rfl, rfl⟩)
        go_ret
        exact ⟨k, rfl, ⟨fun _ => List.any_eq_true.2 ⟨x, HV.out ▸ List.getElem_mem hlt, hpx⟩, fun _ => by omega⟩, rfl⟩
      · have hpx' : p x = false := by simpa using hpx
        clear hpx
        go_wp2_with ((with_reducible refine hq.mono ?_); rintro e w1 ⟨rfl, rfl⟩)
        go_round
        case rel => exact ⟨k + 1, by omega, by go_num, by rw [take_any_snoc p l k hlt, HN.out, HV.out, hpx']; rfl⟩
        case measure => simp [intOf]; omega
    · go_wp2
      go_ret
      exact ⟨-1, rfl, ⟨fun h => by omega, fun h => by rw [List.take_of_length_le (by omega)] at HN; rw [HN.out] at h; cases h⟩, rfl⟩

theorem decide_iff_bool {p : Prop} [Decidable p] {b : Bool} (h : p ↔ b = true) : decide p = b := by
  cases b <;> simp_all

set_option maxHeartbeats 800000 in
theorem containsFunc_int (fv : Nat) (cap : Array Value) (p : Int → Bool) (A0 : Option Addr) (c0 : Nat) (l : List Int) (w : World)
    (hr : Kd.C (Kd.int .i64) w A0 l.length l) (hc : l.length ≤ c0)
    (he : ∀ (args : Array Value) (w : World), (callFunc fv args).run Try.prog w = .ok (.enter fv args) w)
    (hp : ∀ x, Calls Try.prog fv (#[.int .i64 x] ++ cap) w fun e w' => e = .returned (.bool (p x)) ∧ w = w') :
    Calls Try.prog 79 #[.slice A0 l.length c0, .func (.func fv) #[] cap] w fun e w' => e = .returned (.bool (l.any p)) ∧ w = w' := by
  have hq := indexFunc_int fv cap p A0 c0 l w hr hc he hp
  clear hp
  generalize hb : l.any p = b at *
  clear hb
  go_enter Try.func79, Try.ntmps79
  go_wp2_with (go_at_call 82; refine hq.mono ?_; rintro e w' ⟨i, rfl, hi, rfl⟩; have HI := Lib.hid hi; clear hi)
  go_ret
  exact ⟨by rw [decide_iff_bool HI.out]; rfl, rfl⟩

theorem not_any_not (p : Int → Bool) (l : List Int) : (!l.any fun x => !p x) = l.all p := by
  induction l with
  | nil => rfl
  | cons a l ih => simp [ih]

theorem enters80 : ∀ (args : Array Value) (w : World), (callFunc 80 args).run Try.prog w = .ok (.enter 80 args) w := enters_of Try.func80 (by kernel_rfl) rfl
set_option maxHeartbeats 800000 in
theorem all_int (A0 : Option Addr) (c0 : Nat) (l : List Int) (w : World)
    (hr : Kd.C (Kd.int .i64) w A0 l.length l) (hc : l.length ≤ c0) :
    Calls Try.prog 74 #[.func (.func 75) #[] #[], .slice A0 l.length c0] w fun e w' => e = .returned (.bool (l.all tickOk)) ∧ Below w.heap.size w w' := by
  have hmf : ∀ (fn : Fn) (first cap : Array Value) (w : World), (Instr.makeFunc fn first cap).run Try.prog w = .ok (.func fn first cap) w := fun _ _ _ _ => rfl
  have hq : ∀ W : World, Below w.heap.size w W → W.cell? ⟨w.heap.size, 0, none⟩ = some (.func (.func 75) #[] #[]) → Calls Try.prog 79 #[.slice A0 l.length c0, .func (.func 80) #[] #[.pointer (some ⟨w.heap.size, 0, none⟩)]] W fun e w' => e = .returned (.bool (l.any fun x => !tickOk x)) ∧ W = w' :=
    fun W hb hcell => containsFunc_int 80 _ (fun x => !tickOk x) A0 c0 l W (Kd.C_below hr hb) hc enters80 (fun x => all1 x _ W hcell)
  have HQ := Lib.hid hq
  clear hq hr
  go_enter Try.func74, Try.ntmps74
  go_wp2_with (go_at_call 79; refine (HQ.out _ ((Below.refl _ _).alloc (Nat.le_refl _) _) (by go_simp)).mono ?_; rintro e w' ⟨rfl, rfl⟩)
  go_ret
  exact ⟨by rw [not_any_not]; rfl, ((Below.refl _ _).alloc (Nat.le_refl _) _)⟩

def vok (l : List Int) : Bool := decide (l.length ≤ 16) && l.all tickOk
def vclock_Right.f (l0 : List Int) : Option (Bool) := some (vok l0)
set_option maxHeartbeats 800000 in
theorem vclock_Right.calls (A0 : Option Addr) (c0 : Nat) (l0 : List Int) (r : Bool) (w : World) (hr0 : Kd.C (Kd.int .i64) w A0 l0.length l0) (hc0 : l0.length ≤ c0) (h : vclock_Right.f l0 = some r) :
    Calls Try.prog 54 #[.slice A0 l0.length c0] w fun e w' => e = .returned (.bool r) ∧ Below w.heap.size w w' := by
  obtain rfl := Option.some.inj h
  clear h
  unfold vok
  have hq := all_int A0 c0 l0 w hr0 hc0
  have hm : l0.length ≤ 9223372036854775807 := hr0.2.1
  clear hr0
  generalize hb : l0.all tickOk = b at *
  clear hb
  by_cases h : l0.length ≤ 16
  · have h1 : decide ((l0.length : Int) ≤ 16) = true := by simp; omega
    have h2 : decide (l0.length ≤ 16) = true := by simpa using h
    go_enter Try.func54, Try.ntmps54
    go_wp2_with (go_at_call 74; refine hq.mono ?_; rintro e w' ⟨rfl, hbel⟩)
    go_ret
    exact ⟨by rw [h2]; rfl, hbel⟩
  · have h1 : decide ((l0.length : Int) ≤ 16) = false := by simp; omega
    have h2 : decide (l0.length ≤ 16) = false := by simpa using h
    go_enter Try.func54, Try.ntmps54
    go_wp2
    go_ret
    exact ⟨by rw [h2]; rfl, Below.refl _ _⟩

end Go.Proofs.Ytipmoncamnafbaa.X
