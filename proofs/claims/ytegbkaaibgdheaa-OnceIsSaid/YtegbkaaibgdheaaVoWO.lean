/- WaitsOrder: the plain form answers true. -/
import Derived.Test.YtegbkaaibgdheaaVoLent
import Derived.Test.YtegbkaaibgdheaaVoWaitsT
import Derived.Test.YtegbkaaibgdheaaVxBO
set_option linter.unusedVariables false
set_option linter.unusedSimpArgs false
namespace Go.Proofs.Ytegbkaaibgdheaa.VX.VxB_O
open Go.Proofs
theorem find_filter {α : Type} (z : α) (p : α → Bool) : ∀ (l : List α), match l.findIdx? p with | none => l.filter p = [] | some i => ∃ t, l.filter p = l.getD i z :: t
  | [] => rfl
  | a :: l => by
    rw [List.findIdx?_cons]
    cases h : p a with
    | true => exact ⟨l.filter p, by simp [h]⟩
    | false =>
      have := find_filter z p l
      cases hf : l.findIdx? p with
      | none => rw [hf] at this; simpa [h] using this
      | some i => rw [hf] at this; simpa [h] using this
theorem nodup_len {α : Type} [BEq α] [LawfulBEq α] : ∀ (l L : List α), l.Nodup → (∀ x ∈ l, x ∈ L) → l.length ≤ L.length
  | [], L, _, _ => Nat.zero_le _
  | a :: l, L, h, hs => by
    obtain ⟨h1, h2⟩ := List.nodup_cons.1 h
    have ha := hs a (List.mem_cons_self ..)
    have := nodup_len l (L.erase a) h2 (fun x hx => (List.mem_erase_of_ne (show x ≠ a from fun e => h1 (by rw [← e]; exact hx))).2 (hs x (List.mem_cons_of_mem _ hx)))
    rw [List.length_erase_of_mem ha] at this
    have := List.length_pos_of_mem ha
    simp only [List.length_cons]; omega
theorem tm5 (v m : Int) (h1 : 0 < m) (h2 : m < 1000) : 0 ≤ Int.tmod (IntKind.wrap .i64 (Int.tmod v m + m)) m ∧ Int.tmod (IntKind.wrap .i64 (Int.tmod v m + m)) m < m := by
  have a := Int.tmod_lt_of_pos v h1
  have b := Int.lt_tmod_of_pos v h1
  rw [wrapI (by omega) (by omega)]
  exact ⟨Int.tmod_nonneg _ (by omega), Int.tmod_lt_of_pos _ h1⟩
/-- What may stand in the row: of few goroutines, few cases. -/
def woI (l : List W) : Prop := (∀ w ∈ l, isW w ∧ w.1 < 5 ∧ w.2.1 < 4) ∧ (l.map keyW).Nodup
def woK : List K := [0, 1, 2, 3, 4].flatMap fun g => [0, 1, 2, 3].map fun k => ((g, k) : Int × Int)
theorem woI_len {l : List W} (h : woI l) : l.length ≤ 20 := by
  have := nodup_len (α := Int × Int) (l.map keyW) woK h.2 (fun x hx => by
    obtain ⟨w, hw, rfl⟩ := List.mem_map.1 hx
    obtain ⟨⟨a1, a2, a3⟩, b1, b2⟩ := h.1 w hw
    have e1 : w.1 = 0 ∨ w.1 = 1 ∨ w.1 = 2 ∨ w.1 = 3 ∨ w.1 = 4 := by omega
    have e2 : w.2.1 = 0 ∨ w.2.1 = 1 ∨ w.2.1 = 2 ∨ w.2.1 = 3 := by omega
    unfold keyW
    rcases e1 with e1 | e1 | e1 | e1 | e1 <;> rcases e2 with e2 | e2 | e2 | e2 <;> rw [e1, e2] <;> decide)
  simpa [woK] using this
theorem woI_ok {l : List W} (h : woI l) : wOK l := ⟨fun w hw => (h.1 w hw).1, by have := woI_len h; omega, h.2⟩
theorem woI_filter {l : List W} (h : woI l) (p : W → Bool) : woI (l.filter p) := ⟨fun w hw => h.1 w (List.mem_filter.1 hw).1, List.Sublist.nodup (List.Sublist.map _ List.filter_sublist) h.2⟩
theorem woI_add {l : List W} (h : woI l) {w : W} (h1 : isW w) (h2 : w.1 < 5) (h3 : w.2.1 < 4) (h4 : keyW w ∉ l.map keyW) : woI (l ++ [w]) := by
  refine ⟨fun x hx => ?_, ?_⟩
  · rcases List.mem_append.1 hx with hx | hx
    · exact h.1 x hx
    · rw [List.mem_singleton.1 hx]; exact ⟨h1, h2, h3⟩
  · rw [List.map_append, List.nodup_append]
    refine ⟨h.2, by simp, fun a ha b hb => ?_⟩
    simp only [List.map_cons, List.map_nil, List.mem_singleton] at hb
    subst hb
    exact fun e => h4 (e ▸ ha)
theorem wo_inner (l s : List W) (n k : Int) (h : woI l) : loop L_plaitlaw05_WaitsOrder_20v2 (l, s, n, k, 0, l) = some (.inr (l, s, n, k, l)) := by
  have hl := woI_len h
  refine loop_count (f := L_plaitlaw05_WaitsOrder_20v2) 6 (fun g => (l, s, n, k, (g : Int), l)) (.inr (l, s, n, k, l)) (fun g hg => ?_) ?_ 0 (Nat.zero_le _)
  · unfold L_plaitlaw05_WaitsOrder_20v2
    simp only
    rw [bif_t (by simpa using by omega), wfirst_eq l _ (by omega), dropL_eq l _ (by omega), if_pos (woI_ok h), if_neg (by omega), wrapI (by omega) (by omega)]
    simp only [Option.bind_some]
    have hf := find_filter zeroW (notG (g : Int)) l
    cases hi : l.findIdx? (notG (g : Int)) with
    | none =>
      rw [hi] at hf
      have hf : l.filter (notG (g : Int)) = [] := hf
      rw [hf]; rfl
    | some i =>
      rw [hi] at hf
      obtain ⟨t, ht⟩ := hf
      rw [ht]
      have hb : Ty.beq (.pair (.int .i64) (.pair (.int .i64) (.int .i64))) (l.getD i zeroW) (getAt ((0 : Int), ((0 : Int), (0 : Int))) (l.getD i zeroW :: t) (toN 0)) = true := bqW _
      simp only []
      rw [bif_f (by simp [Ty.beq]; omega), bif_t (by rfl), bif_t (by simp [inb])]
      exact bif_f (congrArg Bool.not hb)
  · unfold L_plaitlaw05_WaitsOrder_20v2
    rfl
theorem wo_loop (s : List W) (hs : s.length ≤ 100) : loop L_plaitlaw05_WaitsOrder_4 ([], s, (s.length : Int), 0, []) = some (.inr ()) := by
  obtain ⟨y, h1, h2⟩ := loop_rule (f := L_plaitlaw05_WaitsOrder_4) (fun x => ∃ (l : List W) (k : Nat), x = (l, s, (s.length : Int), (k : Int), l) ∧ k ≤ s.length ∧ woI l) (fun y => y = .inr ()) (fun x => s.length - x.2.2.2.1.toNat) (by
    rintro x ⟨l, k, rfl, hk, h⟩
    have hl := woI_len h
    unfold L_plaitlaw05_WaitsOrder_4
    simp only
    by_cases hlt : k < s.length
    · left
      have hw1 : IntKind.wrap .i64 ((k : Int) + 1) = (k : Int) + 1 := wrapI (by omega) (by omega)
      rw [bif_t (by simpa using hlt), bif_t (inb_nat hlt), toN_nat]
      generalize getAt ((0 : Int), ((0 : Int), (0 : Int))) s k = v
      have hG := tm5 v.1 5 (by omega) (by omega)
      have hS := tm5 v.2.2 9 (by omega) (by omega)
      have hC := Int.tmod_lt_of_pos v.2.1 (show (0 : Int) < 4 by omega)
      generalize Int.tmod (IntKind.wrap .i64 (Int.tmod v.1 5 + 5)) 5 = G at *
      generalize Int.tmod (IntKind.wrap .i64 (Int.tmod v.2.2 9 + 9)) 9 = S at *
      generalize Int.tmod v.2.1 4 = C at *
      by_cases hneg : C < 0
      · rw [bif_t (by simpa using hneg), wdrop_eq l _ (by omega), dropL_eq l _ (by omega), if_pos (woI_ok h), if_neg (by omega)]
        simp only [Option.bind_some]
        have h' := woI_filter h (notG G)
        have hl' := woI_len h'
        rw [bif_f (by rfl), sameL_eq (by omega)]
        simp only [Option.bind_some]
        rw [bif_f (by simp), wo_inner _ _ _ _ h']
        simp only [Option.bind_some, hw1]
        exact ⟨_, rfl, ⟨_, k + 1, rfl, hlt, h'⟩, by show s.length - ((k : Int) + 1).toNat < s.length - (k : Int).toNat; omega⟩
      · rw [bif_f (by simpa using hneg), wpush_eq l _ (by omega), hasL_eq l _ _ (by omega), if_pos (woI_ok h), if_pos (show isW (G, C, S) from ⟨hG.1, by simp only; omega, hS.1⟩)]
        have hkey : keyW (G, C, S) = (G, C) := rfl
        simp only [Option.bind_some]
        by_cases hin : (G, C) ∈ l.map keyW
        · rw [if_pos (by rw [hkey]; exact hin)]
          simp only
          rw [bif_f (by simp [hin, Ty.beq]), bif_t (by rfl), bif_f (by rfl), bif_f (by rfl), sameL_eq (by omega)]
          simp only [Option.bind_some]
          rw [bif_f (by simp), wo_inner _ _ _ _ h]
          simp only [Option.bind_some, hw1]
          exact ⟨_, rfl, ⟨_, k + 1, rfl, hlt, h⟩, by show s.length - ((k : Int) + 1).toNat < s.length - (k : Int).toNat; omega⟩
        · have h' := woI_add h (w := (G, C, S)) ⟨hG.1, by simp only; omega, hS.1⟩ hG.2 hC hin
          have hl' := woI_len h'
          rw [if_neg (by rw [hkey]; exact hin), if_neg (by omega)]
          simp only
          rw [bif_f (by simp [hin, Ty.beq]), bif_f (by rfl), bif_t (by rfl), bif_t (fits_iff.2 (by simp; omega)), sameL_eq (by omega)]
          simp only [Option.bind_some]
          rw [bif_f (by simp), wo_inner _ _ _ _ h']
          simp only [Option.bind_some, hw1]
          exact ⟨_, rfl, ⟨_, k + 1, rfl, hlt, h'⟩, by show s.length - ((k : Int) + 1).toNat < s.length - (k : Int).toNat; omega⟩
    · right
      rw [bif_f (by simpa using hlt)]
      exact ⟨_, rfl, rfl⟩) ([], s, (s.length : Int), 0, []) ⟨[], 0, rfl, Nat.zero_le _, by simp [woI]⟩
  rw [h1, h2]
theorem waitsOrder (s : List W) : F_plaitlaw05_WaitsOrder s = some true := by
  unfold F_plaitlaw05_WaitsOrder
  rw [bif_t (sub3L.2 (by omega))]
  have hc : cut s (toN 0) (toN (min ((s.length : Nat) : Int) 100) - toN 0) = s.take 100 := by
    unfold cut toN
    simp only [List.drop_zero, Int.toNat_zero, Nat.sub_zero]
    rcases Nat.le_total s.length 100 with h | h
    · rw [List.take_of_length_le (by omega), List.take_of_length_le h]
    · congr 1; omega
  rw [hc]
  have hl : (s.take 100).length ≤ 100 := by simp; omega
  rw [wo_loop _ hl]
  simp only [Option.bind_some]
  rw [walive_eq]
  rfl
theorem waitsOrder_law (x : HL [.slice (.pair (.int .i64) (.pair (.int .i64) (.int .i64)))]) (h : wfHL [.slice (.pair (.int .i64) (.pair (.int .i64) (.int .i64)))] x) : F_plaitlaw05_WaitsOrder x = some true := waitsOrder x
end Go.Proofs.Ytegbkaaibgdheaa.VX.VxB_O
