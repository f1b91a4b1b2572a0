/- RingOrder: the plain form answers true. -/
import Derived.Test.YtegbkaaibgdheaaVoRing
import Derived.Test.YtegbkaaibgdheaaVl2
set_option linter.unusedVariables false
set_option linter.unusedSimpArgs false
namespace Go.Proofs.Ytegbkaaibgdheaa.VX.VxB_O
open Go.Proofs
theorem rowsL_eq {a b : List Int} (ha : a.length < 4611686018427387904) : F_plaitref01_Rows_lent1 (a, b) = some (decide (a = b), b) := by
  unfold F_plaitref01_Rows_lent1
  simp only
  by_cases hl : a.length = b.length
  · rw [bif_f (by simp [hl])]
    obtain ⟨y, h1, h2⟩ := loop_rule (f := L_plaitref01_Rows_lent1_5) (fun x => ∃ k : Nat, x = (a, (a.length : Int), (k : Int), b) ∧ k ≤ a.length ∧ a.take k = b.take k) (fun y => (y = .inl (false, b) ∧ a ≠ b) ∨ (y = .inr b ∧ a = b)) (fun x => a.length - x.2.2.1.toNat) (by
      rintro x ⟨k, rfl, hk, he⟩
      unfold L_plaitref01_Rows_lent1_5
      simp only
      by_cases hlt : k < a.length
      · rw [bif_t (by simpa using hlt), bif_t (inb_nat hlt), bif_t (inb_nat (by omega)), toN_nat, getAtL _ hlt, getAtL _ (by omega : k < b.length)]
        by_cases hx : a[k] = b[k]'(by omega)
        · left
          rw [bif_f (by simp [hx])]
          refine ⟨_, rfl, ⟨k + 1, ?_, hlt, ?_⟩, ?_⟩
          · rw [wrapI (by omega) (by omega)]; rfl
          · rw [List.take_succ_eq_append_getElem hlt, List.take_succ_eq_append_getElem (by omega : k < b.length), he, hx]
          · rw [wrapI (by omega) (by omega)]; show a.length - ((k : Int) + 1).toNat < a.length - (k : Int).toNat; omega
        · right
          rw [bif_t (by simpa using hx)]
          exact ⟨_, rfl, .inl ⟨rfl, fun e => hx (by subst e; rfl)⟩⟩
      · right
        rw [bif_f (by simpa using hlt)]
        refine ⟨_, rfl, .inr ⟨rfl, ?_⟩⟩
        rwa [List.take_of_length_le (by omega), List.take_of_length_le (by omega)] at he) (a, (a.length : Int), (0 : Int), b) ⟨0, rfl, Nat.zero_le _, rfl⟩
    rw [h1]
    rcases h2 with ⟨rfl, h⟩ | ⟨rfl, h⟩
    · simp [h]
    · simp [h]
  · rw [bif_t (by simp; omega)]
    have : a ≠ b := fun e => hl (by rw [e])
    simp [this]

theorem new_eq (n : Int) (h1 : 0 ≤ n) (h2 : n ≤ 8) : F_ring_New n = some ((n, 0, List.replicate n.toNat 0, 0), 0) := by
  unfold F_ring_New
  rw [bif_f (by simpa using h1), bif_f (by simpa using h2), bif_t (mkOK_iff.2 (by omega))]
  rfl
def roS (n : Int) (s : List Int) (x : Int × List Int × Int × Int × Rg × List Int) : Prop := ∃ (k : Nat) (r : Rg), x = (n, s, (s.length : Int), (k : Int), r, rItems r) ∧ k ≤ s.length ∧ rOK r ∧ r.1 = n
theorem ro_loop (n : Int) (s : List Int) (hs : s.length ≤ 200) (r0 : Rg) (h0 : rOK r0) (hn0 : r0.1 = n) : loop L_plaitlaw04_RingOrder_8 (n, s, (s.length : Int), 0, r0, rItems r0) = some (.inr ()) := by
  obtain ⟨y, h1, h2⟩ := loop_rule (f := L_plaitlaw04_RingOrder_8) (roS n s) (fun y => y = .inr ()) (fun x => s.length - x.2.2.2.1.toNat) (by
    rintro x ⟨k, r, rfl, hk, h, hn⟩
    have hil := items_len r
    have hrl : (rItems r).length ≤ 8 := by obtain ⟨a1, a2, a3, a4, a5, a6⟩ := h; omega
    have hrn : ((rItems r).length : Int) = r.2.2.2 := by obtain ⟨a1, a2, a3, a4, a5, a6⟩ := h; omega
    have hm : ∀ (x : Int × List Int × Int × Int × Rg × List Int), x.2.2.2.1 = (k : Int) + 1 → s.length - x.2.2.2.1.toNat < s.length - (k : Int).toNat ∨ ¬ k < s.length := fun x e => by rw [e]; omega
    have tail : ∀ (r' : Rg), rOK r' → r'.1 = n → (rItems r').length ≤ 8 →
        ((F_ring_Items r').bind fun r4 => bif (r4.2 != (0 : Int)) then some (.inr (.inl false)) else ((F_plaitref01_Rows_lent1 (r4.1, rItems r'))).bind fun r5 => bif (Bool.not r5.1) then some (.inr (.inl false)) else ((F_ring_Right r')).bind fun r6 => bif (Bool.not r6) then some (.inr (.inl false)) else some (.inl (n, s, (s.length : Int), IntKind.wrap .i64 ((k : Int) + 1), r', r5.2)) : Option ((Int × List Int × Int × Int × Rg × List Int) ⊕ (Bool ⊕ Unit))) = some (.inl (n, s, (s.length : Int), IntKind.wrap .i64 ((k : Int) + 1), r', rItems r')) := by
      intro r' h' hn' hl'
      rw [items_eq, if_pos h']
      simp only [Option.bind_some]
      rw [bif_f (by rfl), rowsL_eq (by omega)]
      simp only [Option.bind_some]
      rw [bif_f (by simp), right_eq, decide_eq_true h']
      rfl
    unfold L_plaitlaw04_RingOrder_8
    simp only
    by_cases hlt : k < s.length
    · left
      have hw1 : IntKind.wrap .i64 ((k : Int) + 1) = (k : Int) + 1 := wrapI (by omega) (by omega)
      rw [bif_t (by simpa using hlt), bif_t (inb_nat hlt), toN_nat]
      generalize getAt (0 : Int) s k = v
      have fin : ∀ (r' : Rg), rOK r' → r'.1 = n → ∃ x', some (Sum.inl (n, s, (s.length : Int), IntKind.wrap .i64 ((k : Int) + 1), r', rItems r') : (Int × List Int × Int × Int × Rg × List Int) ⊕ (Bool ⊕ Unit)) = some (.inl x') ∧ roS n s x' ∧ s.length - x'.2.2.2.1.toNat < s.length - (k : Int).toNat := by
        intro r' h' hn'
        refine ⟨_, rfl, ⟨k + 1, r', by rw [hw1]; rfl, hlt, h', hn'⟩, ?_⟩
        show s.length - (IntKind.wrap .i64 ((k : Int) + 1)).toNat < s.length - (k : Int).toNat
        rw [hw1]; omega
      by_cases hev : Int.tmod v 2 = 0
      · rw [bif_t (by simpa using hev), push_eq, if_pos h]
        by_cases hf : r.2.2.2 = r.1
        · rw [if_pos hf]
          simp only [Option.bind_some]
          rw [bif_f (by simp [Ty.beq]; omega), bif_t (by rfl), bif_f (by rfl), bif_f (by rfl)]
          have := tail r h hn hrl
          rw [this]
          exact fin r h hn
        · have h' := pushed_ok h hf v
          have hi' := pushed_items h hf v
          have hl' := items_len (pushed r v)
          have hl8 : (rItems (pushed r v)).length ≤ 8 := by obtain ⟨a1, a2, a3, a4, a5, a6⟩ := h'; omega
          rw [if_neg hf]
          simp only [Option.bind_some]
          rw [bif_f (by simp [Ty.beq]; omega), bif_f (by rfl), bif_t (by rfl), bif_t (fits_iff.2 (by simp; omega))]
          have := tail (pushed r v) h' hn hl8
          rw [hi'] at this
          rw [this, ← hi']
          exact fin _ h' hn
      · rw [bif_f (by simpa using hev), pop_eq, if_pos h]
        by_cases hf : r.2.2.2 = 0
        · rw [if_pos hf]
          simp only [Option.bind_some]
          have e0 : rItems r = [] := List.length_eq_zero_iff.1 (by omega)
          rw [bif_f (by simp [Ty.beq, e0]), bif_t (by rfl), bif_f (by rfl), bif_f (by rfl)]
          have := tail r h hn hrl
          rw [this]
          exact fin r h hn
        · have h' := popped_ok h hf
          have hi' := popped_items h hf
          have hl' := items_len (popped r)
          have hl8 : (rItems (popped r)).length ≤ 8 := by obtain ⟨a1, a2, a3, a4, a5, a6⟩ := h'; omega
          rw [if_neg hf]
          simp only [Option.bind_some]
          rw [hi'] at hrn hrl ⊢
          rw [bif_f (by simp [Ty.beq]; simp at hrn; omega), bif_f (by rfl), bif_t (by rfl), bif_t (by rw [inbL]; simp)]
          rw [bif_f (by show (first r != first r) = false; simp), bif_t (sub3L.2 (by simp; omega)), cut_one]
          have := tail (popped r) h' hn hl8
          rw [this]
          exact fin _ h' hn
    · right
      rw [bif_f (by simpa using hlt)]
      exact ⟨_, rfl, rfl⟩) (n, s, (s.length : Int), 0, r0, rItems r0) ⟨0, r0, rfl, Nat.zero_le _, h0, hn0⟩
  rw [h1, h2]
theorem alive_eq : F_plaitlaw04_alive () = some true := by
  unfold F_plaitlaw04_alive
  rw [items_eq, if_pos (by decide)]
  simp only [Option.bind_some]
  rw [bif_t (by rfl), rowsL_eq (by simp [rItems])]
  rw [show rItems ((2 : Int), (1 : Int), [(7 : Int), 5], (2 : Int)) = [5, 7] by decide]
  rfl
theorem ringOrder (n0 : Int) (s : List Int) : F_plaitlaw04_RingOrder (n0, s) = some true := by
  unfold F_plaitlaw04_RingOrder
  simp only
  have hG := tm5 n0 9 (by omega) (by omega)
  generalize Int.tmod (IntKind.wrap .i64 (Int.tmod n0 9 + 9)) 9 = n at *
  rw [new_eq n hG.1 (by omega)]
  simp only [Option.bind_some]
  rw [bif_f (by rfl), bif_t (sub3L.2 (by omega)), cut_min s 200 200 rfl]
  have hl : (s.take 200).length ≤ 200 := by simp; omega
  have h0 : rOK (n, 0, List.replicate n.toNat 0, 0) := ⟨hG.1, by simp only; omega, by simp; omega, Int.le_refl _, hG.1, Int.le_refl _, by simp only; omega⟩
  have := ro_loop n _ hl (n, 0, List.replicate n.toNat 0, 0) h0 rfl
  rw [show rItems (n, 0, List.replicate n.toNat 0, 0) = [] by simp [rItems]] at this
  rw [this]
  simp only [Option.bind_some]
  rw [alive_eq]
  rfl
theorem ringOrder_law (x : HL [.int .i64, .slice (.int .i64)]) (h : wfHL [.int .i64, .slice (.int .i64)] x) : F_plaitlaw04_RingOrder x = some true := ringOrder x.1 x.2
end Go.Proofs.Ytegbkaaibgdheaa.VX.VxB_O
