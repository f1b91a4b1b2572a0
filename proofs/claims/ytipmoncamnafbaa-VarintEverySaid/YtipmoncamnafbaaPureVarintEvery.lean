import Derived.Test.YtipmoncamnafbaaX14
import Derived.Test.YtipmoncamnafbaaPl7
set_option linter.unusedVariables false
set_option linter.unusedSimpArgs false
namespace Go.Proofs.Ytipmoncamnafbaa.Pure
open Go.RowKit Go.Proofs.Ytipmoncamnafbaa.X Go.Proofs.YtipmoncamnafbaaW.PrintWords Go.Proofs.YtipmoncamnafbaaW.PrintLast


theorem every_l (text : ByteArray) (hs : text.size ≤ 200) (l : List Int) (hl : l.length ≤ 60) (a : ByteArray × Int) (ha : varint_All.f 400 l = some a) (m : List Int × Int) (hm : varint_Every.f 400 text = some m) (d : Nat) :
    ∀ k i, 300 + d ≤ k → i + d = l.length → plaitlaw03_VarintEvery.l0 k l text a.1 a.2 m.1 m.2 ((l.take i).all small) l (l.length : Int) i = some true := by
  have hE := every_in text (by omega)
  have hlen : (evN text.size (nb text) []).1.length ≤ 200 := by
    have key : ∀ f (l out : List Int), (evN f l out).1.length ≤ out.length + f := by
      intro f
      induction f with
      | zero => intro l out; simp [evN]
      | succ f ih =>
        intro l out
        rw [evN]
        split
        · simp
        · split
          · have := ih (l.drop (getL l).2.1) (out ++ [(getL l).1])
            simp at this; omega
          · simp
    have := key text.size (nb text) []
    simp at this; omega
  rw [(hE 400 (by omega)).1] at hm
  cases hm
  induction d with
  | zero =>
    intro k i hk hi
    obtain ⟨k, rfl⟩ : ∃ m, k = m + 2 := ⟨k - 2, by omega⟩
    rw [plaitlaw03_VarintEvery.l0, if_neg (by omega), List.take_of_length_le (by omega)]
    rw [allS l (by omega) 400 (by omega)] at ha
    have hr := rows_self (evN text.size (nb text) []).1 k (by omega) (by omega)
    by_cases h : l.all small = true
    · rw [if_pos h] at ha
      cases ha
      rw [if_pos h, if_pos rfl, refAllS l (by omega) h (k + 1) (by omega)]
      simp only [Option.bind_some]
      rw [plaitlaw03_VarintEvery.j1, if_neg (by simp), (hE k (by omega)).2, alive3 k (by omega)]
      simp only [Option.bind_some, if_true, hr]
    · rw [if_neg h] at ha
      cases ha
      rw [if_neg h, if_pos rfl, toList_empty]
      rw [plaitlaw03_VarintEvery.j2, if_neg (by simp), (hE k (by omega)).2, alive3 k (by omega)]
      simp only [Option.bind_some, if_true, hr]
  | succ d ih =>
    intro k i hk hi
    obtain ⟨k, rfl⟩ : ∃ m, k = m + 1 := ⟨k - 1, by omega⟩
    have hx : rd l (i : Int) = l[i] := by rw [rd_nat3]; simp [show i < l.length by omega]
    have hts : (l.take (i + 1)).all small = ((l.take i).all small && small l[i]) := by
      rw [List.take_succ_eq_append_getElem (by omega : i < l.length), List.all_append]; simp
    have := ih k (i + 1) (by omega) (by omega)
    rw [hts] at this
    rw [plaitlaw03_VarintEvery.l0, if_pos (by omega), if_pos (by omega), if_pos (by omega), hx, refSmall, wrap64_id (by omega) (by omega)]
    by_cases h : (l.take i).all small = true
    · rw [if_pos h]
      rw [h, Bool.true_and] at this
      simp only [Option.bind_some]
      exact this
    · rw [if_neg h]
      have h' : (l.take i).all small = false := by simpa using h
      rw [h', Bool.false_and] at this
      exact this
theorem VarintEvery : plaitlaw03_VarintEvery.Pure := by
  intro l text _ _ _ _
  refine ⟨400, ?_⟩
  unfold plaitlaw03_VarintEvery.f
  rw [show (60 : Int) = ((60 : Nat) : Int) from rfl, mn_take, if_pos (by omega), if_pos (by omega), few3]
  rw [Int.toNat_natCast, take_min]
  have hl : (l.take 60).length ≤ 60 := by rw [List.length_take]; omega
  have hs := few3_size text
  generalize text.extract 0 (min text.size 200) = s at *
  generalize l.take 60 = l at *
  simp only [Option.bind_some]
  have hA := allS l (by omega) 400 (by omega)
  have hE := (every_in s (by omega) 400 (by omega)).1
  rw [hA, hE]
  simp only [Option.bind_some]
  have := every_l s hs l hl _ hA _ hE l.length 400 0 (by omega) (by omega)
  simpa using this
end Go.Proofs.Ytipmoncamnafbaa.Pure
