/- Plain lemmas on package varint: rows of numbers and their bytes. -/
import Derived.Test.YtipmoncamnafbaaPl5
set_option linter.unusedVariables false
set_option linter.unusedSimpArgs false
namespace Go.Proofs.Ytipmoncamnafbaa.Pure
open Go.RowKit Go.Proofs.Ytipmoncamnafbaa.X Go.Proofs.YtipmoncamnafbaaW.PrintWords Go.Proofs.YtipmoncamnafbaaW.PrintLast

theorem rd_nat3 (l : List Int) (i : Nat) : rd l (i : Int) = l.getD i 0 := by simp [rd]
theorem rows_l0 (l m : List Int) (hl : l.length = m.length) (hlen : l.length ≤ 1000000) (d : Nat) : ∀ k i, d < k → i + d = l.length → l.drop i = m.drop i → plaitref01_Rows.l0 k l m (l.length : Int) i = some true := by
  induction d with
  | zero =>
    intro k i hk hi h
    obtain ⟨k, rfl⟩ : ∃ m, k = m + 1 := ⟨k - 1, by omega⟩
    rw [plaitref01_Rows.l0, if_neg (by omega)]
  | succ d ih =>
    intro k i hk hi h
    obtain ⟨k, rfl⟩ : ∃ m, k = m + 1 := ⟨k - 1, by omega⟩
    rw [List.drop_eq_getElem_cons (by omega : i < l.length), List.drop_eq_getElem_cons (by omega : i < m.length)] at h
    have h1 := (List.cons.inj h).1
    have h2 := (List.cons.inj h).2
    rw [plaitref01_Rows.l0, if_pos (by omega), if_pos (by omega), if_pos (by omega), if_pos (by omega), if_pos (by
      rw [rd_nat3, rd_nat3]; simp [show i < l.length by omega, show i < m.length by omega, h1]), wrap64_id (by omega) (by omega)]
    exact ih k (i + 1) (by omega) (by omega) h2
theorem rows_self (l : List Int) (k : Nat) (hk : l.length < k) (hlen : l.length ≤ 1000000) : plaitref01_Rows.f k l l = some true := by
  unfold plaitref01_Rows.f
  rw [if_pos rfl]
  exact rows_l0 l l rfl hlen l.length k 0 hk (by omega) rfl

def small (n : Int) : Bool := decide (0 ≤ n) && decide (n ≤ 2147483647)
theorem small_iff {n : Int} : small n = true ↔ 0 ≤ n ∧ n ≤ 2147483647 := by simp [small]
theorem small_not {n : Int} : small n = false ↔ n < 0 ∨ 2147483647 < n := by
  have : small n = false ↔ ¬ (small n = true) := by simp
  rw [this, small_iff]; omega
def flat (l : List Int) : List Int := l.flatMap fun n => putN n.toNat
theorem flat_cons (n : Int) (l : List Int) : flat (n :: l) = putN n.toNat ++ flat l := rfl
theorem flat_append (l m : List Int) : flat (l ++ m) = flat l ++ flat m := by simp [flat]
theorem flat_range (l : List Int) : ∀ x ∈ flat l, 0 ≤ x ∧ x < 256 := by
  intro x hx
  simp only [flat, List.mem_flatMap] at hx
  obtain ⟨n, _, h⟩ := hx
  exact putN_range _ x h
theorem flat_len (l : List Int) (h : l.all small = true) : (flat l).length ≤ 5 * l.length := by
  induction l with
  | nil => simp [flat]
  | cons n t ih =>
    simp only [List.all_cons, Bool.and_eq_true] at h
    have h1 := small_iff.1 h.1
    have := putN_len n.toNat (by omega)
    rw [flat_cons, List.length_append, List.length_cons]
    have := ih h.2
    omega
theorem all_l0 (l : List Int) (hlen : l.length ≤ 1000) (d : Nat) : ∀ k i (s : ByteArray), d + 1 < k → i + d = l.length → s.size ≤ 5 * i →
    varint_All.l0 k s l (l.length : Int) i = some (if (l.drop i).all small then (s ++ strOfNums (flat (l.drop i)), 0) else (⟨#[]⟩, 1)) := by
  induction d with
  | zero =>
    intro k i s hk hi hs
    obtain ⟨k, rfl⟩ : ∃ m, k = m + 1 := ⟨k - 1, by omega⟩
    rw [varint_All.l0, if_neg (by omega), List.drop_eq_nil_of_le (by omega)]
    rw [if_pos (by rfl)]
    congr 2
    apply nb_inj
    rw [nb_append]
    show nb s = nb s ++ []
    simp
  | succ d ih =>
    intro k i s hk hi hs
    obtain ⟨k, rfl⟩ : ∃ m, k = m + 1 := ⟨k - 1, by omega⟩
    have hx : rd l (i : Int) = l[i] := by rw [rd_nat3]; simp [show i < l.length by omega]
    rw [varint_All.l0, if_pos (by omega), if_pos (by omega), if_pos (by omega), hx, List.drop_eq_getElem_cons (by omega : i < l.length)]
    simp only [List.all_cons]
    by_cases hsm : small l[i] = true
    · have h1 := small_iff.1 hsm
      rw [small_in _ h1.1 h1.2]
      have hp := putN_len l[i].toNat (by omega)
      simp only [Option.bind_some, if_true, Bool.true_and, hsm]
      rw [if_pos (by rw [strOfNums_size]; omega), wrap64_id (by omega) (by omega)]
      have := ih k (i + 1) (s ++ strOfNums (putN l[i].toNat)) (by omega) (by omega) (by
        have : (s ++ strOfNums (putN l[i].toNat)).size = s.size + (strOfNums (putN l[i].toNat)).size := ByteArray.size_append
        rw [this, strOfNums_size]; omega)
      rw [show ((i : Int) + 1) = ((i + 1 : Nat) : Int) by omega, this, flat_cons, str_append, ByteArray.append_assoc]
    · have hsm' : small l[i] = false := by simpa using hsm
      rw [small_out _ (small_not.1 hsm')]
      simp [hsm']
theorem allS (l : List Int) (hlen : l.length ≤ 1000) (k : Nat) (hk : l.length + 1 < k) :
    varint_All.f k l = some (if l.all small then (strOfNums (flat l), 0) else (⟨#[]⟩, 1)) := by
  have := all_l0 l hlen l.length k 0 ⟨#[]⟩ hk (by omega) (by simp [ByteArray.size])
  unfold varint_All.f
  rw [List.drop_zero] at this
  rw [show ((0 : Nat) : Int) = 0 from rfl] at this
  rw [this]
  split
  · congr 2
  · rfl
theorem refAll_l0 (l : List Int) (hlen : l.length ≤ 1000) (hsm : l.all small = true) (d : Nat) : ∀ k i (s : ByteArray), d + 8 < k → i + d = l.length → s.size ≤ 5 * i →
    plaitref03_All.l0 k s l (l.length : Int) i = some (s ++ strOfNums (flat (l.drop i))) := by
  induction d with
  | zero =>
    intro k i s hk hi hs
    obtain ⟨k, rfl⟩ : ∃ m, k = m + 1 := ⟨k - 1, by omega⟩
    rw [plaitref03_All.l0, if_neg (by omega), List.drop_eq_nil_of_le (by omega)]
    congr 1
    apply nb_inj
    rw [nb_append]
    show nb s = nb s ++ []
    simp
  | succ d ih =>
    intro k i s hk hi hs
    obtain ⟨k, rfl⟩ : ∃ m, k = m + 1 := ⟨k - 1, by omega⟩
    have hx : rd l (i : Int) = l[i] := by rw [rd_nat3]; simp [show i < l.length by omega]
    have h1 := small_iff.1 (List.all_eq_true.1 hsm l[i] (List.getElem_mem (by omega)))
    rw [plaitref03_All.l0, if_pos (by omega), if_pos (by omega), if_pos (by omega), hx, List.drop_eq_getElem_cons (by omega : i < l.length), refPut' _ k h1.1 (by omega) (by omega)]
    have hp := putN_len l[i].toNat (by omega)
    simp only [Option.bind_some]
    rw [if_pos (by rw [strOfNums_size]; omega), wrap64_id (by omega) (by omega)]
    have := ih k (i + 1) (s ++ strOfNums (putN l[i].toNat)) (by omega) (by omega) (by
      have : (s ++ strOfNums (putN l[i].toNat)).size = s.size + (strOfNums (putN l[i].toNat)).size := ByteArray.size_append
      rw [this, strOfNums_size]; omega)
    rw [show ((i : Int) + 1) = ((i + 1 : Nat) : Int) by omega, this, flat_cons, str_append, ByteArray.append_assoc]
theorem refAllS (l : List Int) (hlen : l.length ≤ 1000) (hsm : l.all small = true) (k : Nat) (hk : l.length + 8 < k) : plaitref03_All.f k l = some (strOfNums (flat l)) := by
  have := refAll_l0 l hlen hsm l.length k 0 ⟨#[]⟩ hk (by omega) (by simp [ByteArray.size])
  unfold plaitref03_All.f
  rw [List.drop_zero] at this
  rw [show ((0 : Nat) : Int) = 0 from rfl] at this
  rw [this]
  congr 1

/-! all numbers of a text -/
def evN : Nat → List Int → List Int → List Int × Int
  | 0, _, out => (out, 0)
  | f + 1, l, out => if l = [] then (out, 0) else if (getL l).2.2 = 0 then evN f (l.drop (getL l).2.1) (out ++ [(getL l).1]) else ([], (getL l).2.2)
theorem evN_nil (f : Nat) (out : List Int) : evN f [] out = (out, 0) := by cases f <;> simp [evN]
theorem every_l0 (s : ByteArray) (hs : s.size ≤ 1000000) (d : Nat) : ∀ (a : Nat) k f (out : List Int), s.size - a ≤ d → a ≤ s.size → d + 40 < k → d ≤ f → out.length ≤ a →
    varint_Every.l0 k s out a = some (evN f ((nb s).drop a) out) ∧ plaitref03_Every.l0 k s out a = some (evN f ((nb s).drop a) out) := by
  induction d with
  | zero =>
    intro a k f out hd ha hk hf ho
    obtain ⟨k, rfl⟩ : ∃ m, k = m + 1 := ⟨k - 1, by omega⟩
    rw [List.drop_eq_nil_of_le (by rw [nb_len]; omega), evN_nil]
    constructor
    · rw [varint_Every.l0, if_neg (by omega)]
    · rw [plaitref03_Every.l0, if_neg (by omega)]
  | succ d ih =>
    intro a k f out hd ha hk hf ho
    obtain ⟨k, rfl⟩ : ∃ m, k = m + 1 := ⟨k - 1, by omega⟩
    obtain ⟨f, rfl⟩ : ∃ m, f = m + 1 := ⟨f - 1, by omega⟩
    by_cases h : a < s.size
    · have hne : (nb s).drop a ≠ [] := by
        intro h2
        have := congrArg List.length h2
        rw [List.length_drop, nb_len] at this
        simp at this; omega
      have hr : ∀ x ∈ (nb s).drop a, 0 ≤ x ∧ x < 256 := fun x hx => nb_range s x (List.mem_of_mem_drop hx)
      rw [varint_Every.l0, if_pos (by omega), get_in s a ha hs k (by omega), plaitref03_Every.l0, if_pos (by omega), refGet_in s a ha hs k (by omega), evN, if_neg hne]
      simp only [Option.bind_some]
      have e1 : (getS s a).2.2 = (getL ((nb s).drop a)).2.2 := rfl
      by_cases he : (getL ((nb s).drop a)).2.2 = 0
      · have hok := getL_ok _ hr he
        have e2 : (getS s a).2.1 = ((a + (getL ((nb s).drop a)).2.1 : Nat) : Int) := by simp [getS, he]
        have e3 : (getS s a).1 = (getL ((nb s).drop a)).1 := rfl
        have hlen : ((nb s).drop a).length = s.size - a := by rw [List.length_drop, nb_len]
        rw [e1, if_pos he, if_pos he, if_pos he, if_pos (by omega), if_pos (by omega), e2, e3, List.drop_drop]
        exact ih (a + (getL ((nb s).drop a)).2.1) k f (out ++ [(getL ((nb s).drop a)).1]) (by omega) (by omega) (by omega) (by omega) (by simp; omega)
      · rw [e1, if_neg he, if_neg he, if_neg he]
        exact ⟨rfl, rfl⟩
    · rw [List.drop_eq_nil_of_le (by rw [nb_len]; omega), evN_nil]
      constructor
      · rw [varint_Every.l0, if_neg (by omega)]
      · rw [plaitref03_Every.l0, if_neg (by omega)]
theorem every_in (s : ByteArray) (hs : s.size ≤ 1000000) (k : Nat) (hk : s.size + 40 < k) : varint_Every.f k s = some (evN s.size (nb s) []) ∧ plaitref03_Every.f k s = some (evN s.size (nb s) []) := by
  have := every_l0 s hs s.size 0 k s.size [] (by omega) (by omega) hk (by omega) (by simp)
  exact this
theorem evN_flat (xs : List Int) (h : xs.all small = true) : ∀ f out, (flat xs).length ≤ f → evN f (flat xs) out = (out ++ xs, 0) := by
  induction xs with
  | nil => intro f out _; rw [show flat [] = [] from rfl, evN_nil]; simp
  | cons n t ih =>
    intro f out hf
    simp only [List.all_cons, Bool.and_eq_true] at h
    have h1 := small_iff.1 h.1
    have hc := can_putN n.toNat
    have hpl := putN_len n.toNat (by omega)
    have hv1 : hv (putN n.toNat) = n := by rw [hv_putN]; omega
    have hg : getL (flat (n :: t)) = (n, (putN n.toNat).length, 0) := by
      rw [flat_cons, getL_can _ _ hc hpl (by omega), hv1]
    have hpos : 0 < (putN n.toNat).length := by
      obtain ⟨i, x, e, _⟩ := hc
      rw [e]; simp
    rw [flat_cons, List.length_append] at hf
    obtain ⟨f, rfl⟩ : ∃ m, f = m + 1 := ⟨f - 1, by omega⟩
    rw [evN, if_neg (by rw [flat_cons]; intro h2; rw [List.append_eq_nil_iff] at h2; rw [h2.1] at hpos; simp at hpos), hg, if_pos rfl]
    have : (flat (n :: t)).drop (putN n.toNat).length = flat t := by rw [flat_cons, List.drop_left]
    rw [this, ih h.2 f _ (by omega)]
    simp
theorem evN_back (f : Nat) : ∀ (l out : List Int), (∀ x ∈ l, 0 ≤ x ∧ x < 256) → l.length ≤ f → (evN f l out).2 = 0 →
    ∃ ys, (evN f l out).1 = out ++ ys ∧ ys.all small = true ∧ flat ys = l := by
  induction f with
  | zero =>
    intro l out hr hl h
    have : l = [] := List.eq_nil_of_length_eq_zero (by omega)
    subst this
    exact ⟨[], by simp [evN], rfl, rfl⟩
  | succ f ih =>
    intro l out hr hl h
    rw [evN] at h ⊢
    by_cases hn : l = []
    · subst hn
      exact ⟨[], by simp, rfl, rfl⟩
    · rw [if_neg hn] at h ⊢
      by_cases he : (getL l).2.2 = 0
      · rw [if_pos he] at h ⊢
        obtain ⟨g1, g2, g3, g4, g5, g6, g7⟩ := getL_ok l hr he
        obtain ⟨ys, e1, e2, e3⟩ := ih (l.drop (getL l).2.1) (out ++ [(getL l).1]) (fun x hx => hr x (List.mem_of_mem_drop hx)) (by rw [List.length_drop]; omega) h
        refine ⟨(getL l).1 :: ys, by rw [e1]; simp, ?_, ?_⟩
        · simp only [List.all_cons, Bool.and_eq_true]
          exact ⟨small_iff.2 ⟨g6, g7⟩, e2⟩
        · rw [flat_cons, e3, g5, putN_hv _ g4, List.take_append_drop]
      · rw [if_neg he] at h
        exact absurd h he
theorem putN_inj {a b : Nat} (h : putN a = putN b) : a = b := by
  have := congrArg hv h
  rw [hv_putN, hv_putN] at this; omega
theorem putN_mono (b : Nat) : ∀ a, a ≤ b → (putN a).length ≤ (putN b).length := by
  induction b using Nat.strongRecOn with
  | _ b ih =>
    intro a h
    by_cases ha : a < 128
    · rw [putN_lt ha]
      by_cases hb : b < 128
      · rw [putN_lt hb]; simp
      · rw [putN_ge hb]; simp
    · rw [putN_ge ha, putN_ge (by omega : ¬ b < 128)]
      have := ih (b / 128) (by omega) (a / 128) (by omega)
      simp; omega
theorem putN_pos (n : Nat) : 1 ≤ (putN n).length := by
  obtain ⟨i, x, e, _⟩ := can_putN n
  rw [e]; simp
theorem putN_prefix (a b : Nat) (ha : a ≤ 2147483647) (hb : b ≤ 2147483647) (h : (putN b).take (putN a).length = putN a) : a = b := by
  have e : putN b = putN a ++ (putN b).drop (putN a).length := by
    conv => lhs; rw [← List.take_append_drop (putN a).length (putN b)]
    rw [h]
  have h1 := getL_can (putN a) ((putN b).drop (putN a).length) (can_putN a) (putN_len a ha) (by rw [hv_putN]; omega)
  have h2 := getL_can (putN b) [] (can_putN b) (putN_len b hb) (by rw [hv_putN]; omega)
  rw [← e, hv_putN] at h1
  rw [List.append_nil, hv_putN, h1] at h2
  have := congrArg Prod.fst h2
  simp at this; omega
theorem cut31 (n : Int) : (wrap64 (Int.tmod (IntKind.u64.wrap n) 2147483648)) = (n % 18446744073709551616) % 2147483648 := by
  have e : IntKind.u64.wrap n = n % 18446744073709551616 := by simp [IntKind.wrap, IntKind.bits, IntKind.signed]
  rw [e, tmod_cases, if_pos (by omega), wrap64_id (by omega) (by omega)]
theorem toList_inj {s t : ByteArray} : s.toList = t.toList ↔ s = t := by
  constructor
  · intro h
    rw [Go.Lib.toList_data, Go.Lib.toList_data] at h
    apply ByteArray.ext
    exact Array.ext' h
  · intro h; rw [h]
theorem strOfNums_inj {a b : Nat} (h : strOfNums (putN a) = strOfNums (putN b)) : a = b := by
  have := congrArg nb h
  rw [nb_put, nb_put] at this
  exact putN_inj this
end Go.Proofs.Ytipmoncamnafbaa.Pure
