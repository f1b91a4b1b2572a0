/- Plain laws of waits: who waits. -/
import Derived.Test.YtegbkaaibgdheaaVoWaits3
set_option linter.unusedVariables false
set_option linter.unusedSimpArgs false
namespace Go.Proofs.Ytegbkaaibgdheaa.VX.VxB_O
open Go.Proofs
def stepO (out : List Int) (w : W) : List Int := if w.1 ∈ out then out else out ++ [w.1]
def whos (l : List W) : List Int := l.foldl stepO []
theorem whos_take {l : List W} {k : Nat} (hk : k < l.length) : whos (l.take (k + 1)) = stepO (whos (l.take k)) l[k] := by
  unfold whos
  rw [List.take_succ_eq_append_getElem hk, List.foldl_append]; rfl
theorem whos_aux (g : Int) : ∀ (l : List W) (out : List Int), g ∈ l.foldl stepO out ↔ g ∈ out ∨ g ∈ l.map (·.1)
  | [], out => by simp
  | w :: l, out => by
    rw [List.foldl_cons, whos_aux g l]
    unfold stepO
    by_cases h : w.1 ∈ out
    · rw [if_pos h]
      simp only [List.map_cons, List.mem_cons]
      constructor
      · rintro (h1 | h1)
        · exact .inl h1
        · exact .inr (.inr h1)
      · rintro (h1 | h1 | h1)
        · exact .inl h1
        · exact .inl (h1 ▸ h)
        · exact .inr h1
    · rw [if_neg h]
      simp only [List.map_cons, List.mem_cons, List.mem_append, List.not_mem_nil, or_false]
      constructor
      · rintro ((h1 | h1) | h1)
        · exact .inl h1
        · exact .inr (.inl h1)
        · exact .inr (.inr h1)
      · rintro (h1 | h1 | h1)
        · exact .inl (.inl h1)
        · exact .inl (.inr h1)
        · exact .inr h1
theorem mem_whos {g : Int} {l : List W} : g ∈ whos l ↔ g ∈ l.map (·.1) := by
  have := whos_aux g l []
  simpa [whos] using this
theorem whos_len (l : List W) : (whos l).length ≤ l.length := by
  have : ∀ (l : List W) (out : List Int), (l.foldl stepO out).length ≤ out.length + l.length := by
    intro l
    induction l with
    | nil => intro out; simp
    | cons w l ih =>
      intro out
      rw [List.foldl_cons, List.length_cons]
      have h1 := ih (stepO out w)
      have h2 : (stepO out w).length ≤ out.length + 1 := by unfold stepO; split <;> simp
      omega
  have := this l []
  simpa [whos] using this
def eqG : Int → Int → Bool := Ty.beq (.int .i64)
theorem eqG_iff (a b : Int) : eqG a b = true ↔ a = b := by
  show (a == b) = true ↔ a = b
  rw [beq_iff_eq]
def stepC (m : List (Int × Int)) (w : W) : List (Int × Int) := mput eqG w.1 (mlook eqG 0 w.1 m + 1) m
def cnt (l : List W) : List (Int × Int) := l.foldl stepC []
theorem cnt_aux : ∀ (l : List W) (m : List (Int × Int)) (ks : List Int), (∀ k, mlook eqG (0 : Int) k m = (ks.count k : Nat)) → ∀ k, mlook eqG (0 : Int) k (l.foldl stepC m) = ((ks ++ l.map (·.1)).count k : Nat)
  | [], m, ks, h1, k => by simp [h1]
  | w :: l, m, ks, h1, k => by
    rw [List.foldl_cons, cnt_aux l (stepC m w) (ks ++ [w.1]) (fun k => by
      unfold stepC
      rw [mput_look eqG_iff]
      by_cases e : k = w.1
      · rw [if_pos e, ← e, h1, List.count_append]; simp
      · rw [if_neg e, h1, List.count_append, List.count_singleton]
        rw [show (w.1 == k) = false by simpa using fun h => e h.symm]; simp)]
    simp
theorem cnt_look (l : List W) (k : Int) : mlook eqG (0 : Int) k (cnt l) = ((l.map (·.1)).count k : Nat) := by
  have := cnt_aux l [] [] (fun k => rfl) k
  simpa [cnt] using this
theorem wwho_eq (l : List W) (hl : l.length < 4611686018427387904) : F_waits_Who l = some (if wOK l then (whos l, 0) else ([], 1)) := by
  unfold F_waits_Who
  rw [wRight_eq l hl]
  simp only [Option.bind_some]
  by_cases h1 : wOK l
  · rw [bif_f (by simp [h1]), if_pos h1]
    obtain ⟨_, h64, _⟩ := h1
    have := loop_count (f := L_waits_Who_7) l.length (fun k => (l, (l.length : Int), (k : Int), cnt (l.take k), whos (l.take k))) (whos l) (by
      intro k hk
      have hc := cnt_look (l.take k) l[k].1
      have hle : ((l.take k).map (·.1)).count l[k].1 ≤ k := Nat.le_trans (List.count_le_length) (by simp; omega)
      have hw : IntKind.wrap .i64 (mlook eqG (0 : Int) l[k].1 (cnt (l.take k)) + 1) = mlook eqG (0 : Int) l[k].1 (cnt (l.take k)) + 1 := wrapI (by omega) (by omega)
      have hm : cnt (l.take (k + 1)) = stepC (cnt (l.take k)) l[k] := by
        unfold cnt
        rw [List.take_succ_eq_append_getElem hk, List.foldl_append]; rfl
      unfold L_waits_Who_7
      simp only
      rw [bif_t (by simpa using hk), bif_t (inb_nat hk), toN_nat, wrapI (n := (k : Int) + 1) (by omega) (by omega)]
      rw [show getAt ((0 : Int), ((0 : Int), (0 : Int))) l k = l[k] from getAtL _ hk]
      show (bif (mlook eqG (0 : Int) l[k].1 (mput eqG l[k].1 (IntKind.wrap .i64 (mlook eqG (0 : Int) l[k].1 (cnt (l.take k)) + 1)) (cnt (l.take k))) == (1 : Int)) then
        (bif fits ((whos (l.take k)).length + 1) then some (Sum.inl (l, (l.length : Int), (k : Int) + 1, mput eqG l[k].1 (IntKind.wrap .i64 (mlook eqG (0 : Int) l[k].1 (cnt (l.take k)) + 1)) (cnt (l.take k)), whos (l.take k) ++ [l[k].1])) else none)
        else some (Sum.inl (l, (l.length : Int), (k : Int) + 1, mput eqG l[k].1 (IntKind.wrap .i64 (mlook eqG (0 : Int) l[k].1 (cnt (l.take k)) + 1)) (cnt (l.take k)), whos (l.take k)))) = _
      have hf := whos_len (l.take k)
      rw [bif_t (fits_iff.2 (by simp at hf; omega)), hw, mput_look eqG_iff, if_pos rfl, hm, whos_take hk]
      unfold stepO
      by_cases h5 : l[k].1 ∈ (l.take k).map (·.1)
      · rw [if_pos (mem_whos.2 h5), bif_f (by have := List.count_pos_iff.2 h5; simp; omega)]; rfl
      · rw [if_neg (fun h => h5 (mem_whos.1 h)), bif_t (by have := List.count_eq_zero.2 h5; simp; omega)]; rfl) (by
      unfold L_waits_Who_7
      simp only
      rw [bif_f (by simp), List.take_length]) 0 (Nat.zero_le _)
    rw [show loop L_waits_Who_7 (l, (l.length : Int), (0 : Int), ([] : List (Int × Int)), ([] : List Int)) = _ from this]
    rfl
  · rw [bif_t (by simp [h1]), if_neg h1]
theorem refWho_eq (l : List W) (hl : l.length ≤ 70) : F_plaitref05_Who l = some (whos l) := by
  have := loop_count (f := L_plaitref05_Who_4) l.length (fun k => (l, l, (l.length : Int), (k : Int), whos (l.take k))) (whos l) (by
    intro k hk
    unfold L_plaitref05_Who_4
    simp only
    rw [bif_t (by simpa using hk), bif_t (inb_nat hk), toN_nat, bif_t (sub3L.2 (by omega))]
    rw [show getAt ((0 : Int), ((0 : Int), (0 : Int))) l k = l[k] from getAtL _ hk]
    rw [show cut l (toN 0) (k - toN 0) = l.take k by simp [cut, toN]]
    generalize hs : l.take k = s
    have hsl : s.length = k := by rw [← hs]; simp; omega
    have hin := loop_count (f := L_plaitref05_Who_8) s.length (fun j => (l, (s.take j).any (fun x => x.1 == l[k].1), l, (l.length : Int), (k : Int), s, (s.length : Int), (j : Int), l[k], whos s)) (l, s.any (fun x => x.1 == l[k].1), l, (l.length : Int), (k : Int), l[k], whos s) (by
      intro j hj
      unfold L_plaitref05_Who_8
      simp only
      rw [bif_t (by simpa using hj), bif_t (inb_nat hj), toN_nat, wrapI (by omega) (by omega)]
      rw [show getAt ((0 : Int), ((0 : Int), (0 : Int))) s j = s[j] from getAtL _ hj]
      rw [List.take_succ_eq_append_getElem hj, List.any_append]
      cases h : (s.take j).any (fun x => x.1 == l[k].1) with
      | true => rfl
      | false => simp [h]) (by
      unfold L_plaitref05_Who_8
      simp only
      rw [bif_f (by simp), List.take_length]) 0 (Nat.zero_le _)
    rw [show loop L_plaitref05_Who_8 (l, false, l, (l.length : Int), (k : Int), s, (s.length : Int), (0 : Int), l[k], whos s) = _ from hin]
    simp only [Option.bind_some]
    have hf := whos_len s
    rw [wrapI (by omega) (by omega), bif_t (fits_iff.2 (by simp; omega)), whos_take hk, hs]
    unfold stepO
    by_cases h5 : l[k].1 ∈ s.map (·.1)
    · rw [if_pos (mem_whos.2 h5), bif_f (by
        obtain ⟨x, hx, e⟩ := List.mem_map.1 h5
        have : (s.any fun x => x.1 == l[k].1) = true := List.any_eq_true.2 ⟨x, hx, by simpa using e⟩
        rw [this]; rfl)]; rfl
    · rw [if_neg (fun h => h5 (mem_whos.1 h)), bif_t (by
        have : (s.any fun x => x.1 == l[k].1) = false := by
          rw [List.any_eq_false]
          intro x hx e
          exact h5 (List.mem_map.2 ⟨x, hx, by simpa using e⟩)
        rw [this]; rfl)]; rfl) (by
    unfold L_plaitref05_Who_4
    simp only
    rw [bif_f (by simp), List.take_length]) 0 (Nat.zero_le _)
  unfold F_plaitref05_Who
  rw [show loop L_plaitref05_Who_4 (l, l, (l.length : Int), (0 : Int), ([] : List Int)) = _ from this]
  rfl
end Go.Proofs.Ytegbkaaibgdheaa.VX.VxB_O
