/- WaitsWho: the plain form answers true. -/
import Derived.Test.YtegbkaaibgdheaaVoWO
import Derived.Test.YtegbkaaibgdheaaVoWaits4
set_option linter.unusedVariables false
set_option linter.unusedSimpArgs false
namespace Go.Proofs.Ytegbkaaibgdheaa.VX.VxB_O
open Go.Proofs
theorem wOK_filter {l : List W} (h : wOK l) (p : W → Bool) : wOK (l.filter p) := ⟨fun w hw => h.1 w (List.mem_filter.1 hw).1, Nat.le_trans (List.length_filter_le _ _) h.2.1, List.Sublist.nodup (List.Sublist.map _ List.filter_sublist) h.2.2⟩
theorem whos_nodup (l : List W) : (whos l).Nodup := by
  have : ∀ (l : List W) (out : List Int), out.Nodup → (l.foldl stepO out).Nodup := by
    intro l
    induction l with
    | nil => intro out h; exact h
    | cons w l ih =>
      intro out h
      rw [List.foldl_cons]
      refine ih _ ?_
      unfold stepO
      split
      · exact h
      · rename_i hn
        rw [List.nodup_append]
        exact ⟨h, by simp, fun a ha b hb e => by rw [List.mem_singleton] at hb; subst hb; exact hn (e ▸ ha)⟩
  exact this l [] (by simp)
theorem ww13 (l : List W) (g : Int) (who : List Int) (met : Bool) (rest : List W) (x : Int) (who2 : List Int) (n i : Int) (c : List Int) (hc : c.length ≤ 200) (hx : x ∉ c) :
    loop L_plaitlaw05_WaitsWho_13 (l, g, who, met, rest, x, who2, n, i, c, (c.length : Int), 0) = some (.inr (l, g, who, met, rest, x, who2, n, i)) := by
  refine loop_count (f := L_plaitlaw05_WaitsWho_13) c.length (fun j => (l, g, who, met, rest, x, who2, n, i, c, (c.length : Int), (j : Int))) _ (fun j hj => ?_) ?_ 0 (Nat.zero_le _)
  · unfold L_plaitlaw05_WaitsWho_13
    simp only
    rw [bif_t (by simpa using hj), bif_t (inb_nat hj), toN_nat, getAtL _ hj, wrapI (by omega) (by omega), bif_f (by
      have : x ≠ c[j] := fun e => hx (e ▸ List.getElem_mem hj)
      simpa using this)]
    rfl
  · unfold L_plaitlaw05_WaitsWho_13
    simp only
    rw [bif_f (by simp)]
def left (l : List W) (c : List Int) : List W := l.filter fun w => decide (w.1 ∉ c)
theorem ww10 (l : List W) (g : Int) (h : wOK l) : loop L_plaitlaw05_WaitsWho_10 (l, g, whos l, false, l, whos l, ((whos l).length : Int), 0) = some (.inr (l, g, whos l, decide (g ∈ whos l), [])) := by
  have hwl := whos_len l
  have h64 := h.2.1
  have hend : left l (whos l) = [] := by
    unfold left
    rw [List.filter_eq_nil_iff]
    intro w hw
    have : w.1 ∈ whos l := mem_whos.2 (List.mem_map.2 ⟨w, hw, rfl⟩)
    simp [this]
  have h0 : left l ((whos l).take 0) = l := by
    unfold left
    rw [List.filter_eq_self]
    intro w hw
    simp
  have := loop_count (f := L_plaitlaw05_WaitsWho_10) (whos l).length (fun i => (l, g, whos l, decide (g ∈ (whos l).take i), left l ((whos l).take i), whos l, ((whos l).length : Int), (i : Int))) (.inr (l, g, whos l, decide (g ∈ whos l), [])) (fun i hi => by
    have hcut : cut (whos l) (toN 0) (toN (i : Int) - toN 0) = (whos l).take i := by
      rw [toN_nat]; show ((whos l).drop 0).take (i - 0) = _; rw [List.drop_zero, Nat.sub_zero]
    have hlen : ((whos l).take i).length = i := by simp; omega
    have hnot : (whos l)[i] ∉ (whos l).take i := by
      intro hm
      obtain ⟨j, hj, e⟩ := List.mem_take_iff_getElem.1 hm
      have := (List.getElem_inj (whos_nodup l)).1 e
      omega
    unfold L_plaitlaw05_WaitsWho_10
    simp only
    rw [bif_t (by simpa using hi), bif_t (inb_nat hi), bif_t (sub3L.2 (by omega)), hcut, toN_nat, getAtL _ hi, ww13 _ _ _ _ _ _ _ _ _ _ (by omega) hnot]
    simp only [Option.bind_some]
    have hmem : 0 ≤ (whos l)[i] := by
      obtain ⟨w, hw, e⟩ := List.mem_map.1 (mem_whos.1 (List.getElem_mem hi))
      rw [← e]; exact (h.1 w hw).1
    have hok := wOK_filter h (fun w => decide (w.1 ∉ (whos l).take i))
    have hok : wOK (left l ((whos l).take i)) := hok
    have hl2 := hok.2.1
    have hnext : (left l ((whos l).take i)).filter (notG (whos l)[i]) = left l ((whos l).take (i + 1)) := by
      unfold left
      rw [List.filter_filter]
      refine List.filter_congr fun w hw => ?_
      rw [List.take_succ_eq_append_getElem hi]
      generalize (whos l).take i = t
      generalize (whos l)[i] = a
      unfold notG
      by_cases e : w.1 = a
      · rw [e]; simp
      · simp [e]
    have hlt : (left l ((whos l).take (i + 1))).length < (left l ((whos l).take i)).length := by
      rw [← hnext]
      refine List.length_filter_lt_length_iff_exists.2 ?_
      obtain ⟨w, hw, e⟩ := List.mem_map.1 (mem_whos.1 (List.getElem_mem hi))
      refine ⟨w, List.mem_filter.2 ⟨hw, ?_⟩, ?_⟩
      · have e : w.1 = (whos l)[i] := e
        rw [e]; simpa using hnot
      · unfold notG
        have e : w.1 = (whos l)[i] := e
        simp [e]
    have hdr := wdrop_eq (left l ((whos l).take i)) (whos l)[i] (by omega)
    rw [if_pos hok, if_neg (by omega), hnext] at hdr
    have hw1 : IntKind.wrap .i64 ((i : Int) + 1) = (i : Int) + 1 := wrapI (by omega) (by omega)
    have hms : decide (g ∈ (whos l).take (i + 1)) = (decide (g ∈ (whos l).take i) || ((whos l)[i] == g)) := by
      rw [List.take_succ_eq_append_getElem hi]
      simp only [List.mem_append, List.mem_singleton]
      by_cases e : (whos l)[i] = g
      · simp [e]
      · have : ¬ g = (whos l)[i] := fun h => e h.symm
        simp [e, this]
    rw [hdr, hms]
    simp only [Option.bind_some, hw1]
    cases hmt : decide (g ∈ (whos l).take i) with
    | true =>
      rw [cond_true, bif_f (by rfl), bif_f (by simp; omega)]
      rfl
    | false =>
      rw [cond_false, bif_f (by rfl), bif_f (by simp; omega)]
      rfl) (by
    unfold L_plaitlaw05_WaitsWho_10
    simp only
    rw [bif_f (by simp), List.take_length, hend]) 0 (Nat.zero_le _)
  rw [h0] at this
  simpa using this
def scan (c : List Int) (o : Int) : Int := c.foldl (fun o x => if x = o then o + 1 else o) o
theorem scan_take {c : List Int} {j : Nat} (hj : j < c.length) (o : Int) : scan (c.take (j + 1)) o = if c[j] = scan (c.take j) o then scan (c.take j) o + 1 else scan (c.take j) o := by
  unfold scan
  rw [List.take_succ_eq_append_getElem hj, List.foldl_append]; rfl
theorem scan_cons (a : Int) (c : List Int) (o : Int) : scan (a :: c) o = scan c (if a = o then o + 1 else o) := rfl
theorem scan_ge : ∀ (c : List Int) (o : Int), o ≤ scan c o
  | [], o => Int.le_refl _
  | a :: c, o => by
    rw [scan_cons]
    split
    · have := scan_ge c (o + 1); omega
    · exact scan_ge c o
theorem scan_le : ∀ (c : List Int) (o : Int), scan c o ≤ o + c.length
  | [], o => by simp [scan]
  | a :: c, o => by
    rw [scan_cons]
    split
    · have := scan_le c (o + 1); simp; omega
    · have := scan_le c o; simp; omega
theorem scan_hit : ∀ (c : List Int) (o : Int), o ∈ c → o < scan c o
  | a :: c, o, h => by
    rw [scan_cons]
    split
    · have := scan_ge c (o + 1); omega
    · rename_i hne
      refine scan_hit c o ?_
      rcases List.mem_cons.1 h with e | h
      · exact absurd e.symm hne
      · exact h
theorem scan_miss : ∀ (c : List Int) (o : Int), o ∉ c → scan c o = o
  | [], o, _ => rfl
  | a :: c, o, h => by
    rw [scan_cons, if_neg (fun e => h (by rw [e]; exact List.mem_cons_self ..))]
    exact scan_miss c o (fun e => h (List.mem_cons_of_mem _ e))
theorem scan_mem (who : List Int) : ∀ (c : List Int) (o : Int), (∀ x ∈ c, x ∈ who) → (∀ y, 0 ≤ y → y < o → y ∈ who) → ∀ y, 0 ≤ y → y < scan c o → y ∈ who
  | [], o, _, h => h
  | a :: c, o, hc, h => by
    rw [scan_cons]
    split
    · rename_i e
      refine scan_mem who c (o + 1) (fun x hx => hc x (List.mem_cons_of_mem _ hx)) (fun y h1 h2 => ?_)
      by_cases hy : y = o
      · rw [hy, ← e]; exact hc a (List.mem_cons_self ..)
      · exact h y h1 (by omega)
    · exact scan_mem who c o (fun x hx => hc x (List.mem_cons_of_mem _ hx)) h
def scans (c : List Int) : Nat → Int
  | 0 => 0
  | p + 1 => scan c (scans c p)
theorem scans_ok (c : List Int) : ∀ p, (0 ≤ scans c p ∧ scans c p ≤ p * c.length) ∧ (∀ y, 0 ≤ y → y < scans c p → y ∈ c) ∧ (scans c p ∉ c ∨ (p : Int) ≤ scans c p)
  | 0 => ⟨⟨Int.le_refl _, by simp [scans]⟩, fun y h1 h2 => absurd h2 (by simp [scans]; omega), .inr (by simp [scans])⟩
  | p + 1 => by
    obtain ⟨⟨h1, h1'⟩, h2, h3⟩ := scans_ok c p
    have hg := scan_ge c (scans c p)
    have hle := scan_le c (scans c p)
    refine ⟨⟨by show 0 ≤ scan c (scans c p); omega, ?_⟩, scan_mem c c _ (fun _ h => h) h2, ?_⟩
    · show scan c (scans c p) ≤ _
      rw [Int.natCast_add, Int.add_mul]; omega
    · show scan c (scans c p) ∉ c ∨ ((p + 1 : Nat) : Int) ≤ scan c (scans c p)
      by_cases hm : scans c p ∈ c
      · rcases h3 with h3 | h3
        · exact absurd hm h3
        · right; have := scan_hit c _ hm; omega
      · left; rw [scan_miss c _ hm]; exact hm
theorem scans_out (c : List Int) : scans c c.length ∉ c := by
  intro hm
  obtain ⟨⟨h1, _⟩, h2, h3⟩ := scans_ok c c.length
  rcases h3 with h3 | h3
  · exact h3 hm
  · have := nodup_len (α := Int) ((List.range (c.length + 1)).map fun (i : Nat) => (i : Int)) c (by
      rw [List.nodup_iff_pairwise_ne, List.pairwise_map]
      refine List.Pairwise.imp (R := (· ≠ ·)) ?_ (List.nodup_iff_pairwise_ne.1 (List.nodup_range (n := c.length + 1)))
      intro a b h e
      exact h (by omega)) (fun x hx => by
      obtain ⟨i, hi, rfl⟩ := List.mem_map.1 hx
      have hi := List.mem_range.1 hi
      by_cases e : (i : Int) = scans c c.length
      · rw [e]; exact hm
      · exact h2 _ (by omega) (by omega))
    simp at this; omega
theorem ww29 (l : List W) (who : List Int) (met : Bool) (rest nr : List W) (f o n p : Int) (c : List Int) (hc : c.length ≤ 200) (ho : 0 ≤ o ∧ o < 1000000) :
    loop L_plaitlaw05_WaitsWho_29 (l, who, met, rest, nr, f, o, n, p, c, (c.length : Int), 0) = some (l, who, met, rest, nr, f, scan c o, n, p) := by
  have := loop_count (f := L_plaitlaw05_WaitsWho_29) c.length (fun j => (l, who, met, rest, nr, f, scan (c.take j) o, n, p, c, (c.length : Int), (j : Int))) (l, who, met, rest, nr, f, scan c o, n, p) (fun j hj => by
    have h1 := scan_ge (c.take j) o
    have h2 := scan_le (c.take j) o
    have h3 : (c.take j).length ≤ 200 := by simp; omega
    unfold L_plaitlaw05_WaitsWho_29
    simp only
    rw [bif_t (by simpa using hj), bif_t (inb_nat hj), toN_nat, getAtL _ hj, wrapI (n := (j : Int) + 1) (by omega) (by omega), wrapI (n := scan (c.take j) o + 1) (by omega) (by omega), scan_take hj]
    by_cases e : c[j] = scan (c.take j) o
    · rw [bif_t (by simpa using e), if_pos e]; rfl
    · rw [bif_f (by simpa using e), if_neg e]; rfl) (by
    unfold L_plaitlaw05_WaitsWho_29
    simp only
    rw [bif_f (by simp), List.take_length]) 0 (Nat.zero_le _)
  exact this
theorem ww27 (l : List W) (who : List Int) (met : Bool) (rest nr : List W) (f : Int) (hc : who.length ≤ 200) :
    loop L_plaitlaw05_WaitsWho_27 (l, who, met, rest, nr, f, 0, (who.length : Int), 0) = some (l, met, rest, nr, f, scans who who.length) := by
  refine loop_count (f := L_plaitlaw05_WaitsWho_27) who.length (fun p => (l, who, met, rest, nr, f, scans who p, (who.length : Int), (p : Int))) _ (fun p hp => ?_) ?_ 0 (Nat.zero_le _)
  · obtain ⟨⟨h1, h2⟩, _⟩ := scans_ok who p
    have h3 : p * who.length ≤ 200 * 200 := Nat.mul_le_mul (by omega) hc
    have h4 : (p : Int) * (who.length : Int) = ((p * who.length : Nat) : Int) := by simp
    unfold L_plaitlaw05_WaitsWho_27
    simp only
    rw [bif_t (by simpa using hp), ww29 _ _ _ _ _ _ _ _ _ _ hc ⟨h1, by omega⟩]
    simp only [Option.bind_some]
    rw [wrapI (by omega) (by omega)]
    rfl
  · unfold L_plaitlaw05_WaitsWho_27
    simp only
    rw [bif_f (by simp)]
theorem waitsWho (l0 : List W) (g0 : Int) : F_plaitlaw05_WaitsWho (l0, g0) = some true := by
  unfold F_plaitlaw05_WaitsWho
  simp only
  have hfew := wfew_eq l0
  have hl : (l0.take 70).length ≤ 70 := by simp; omega
  generalize l0.take 70 = l at hfew hl
  have hG := tm5 g0 16 (by omega) (by omega)
  generalize Int.tmod (IntKind.wrap .i64 (Int.tmod g0 16 + 16)) 16 = g at *
  rw [hfew]
  simp only [Option.bind_some]
  rw [wwho_eq l (by omega), walive_eq]
  by_cases h : wOK l
  · rw [if_pos h]
    simp only [Option.bind_some]
    have hwl := whos_len l
    rw [bif_f (by rfl), ww10 l g h]
    simp only [Option.bind_some]
    rw [wdrop_eq l g (by omega), if_pos h, if_neg (by omega)]
    simp only [Option.bind_some]
    rw [ww27 _ _ _ _ _ _ (by omega)]
    simp only [Option.bind_some]
    have hout := scans_out (whos l)
    have hge := (scans_ok (whos l) (whos l).length).1.1
    generalize scans (whos l) (whos l).length = o at *
    have hfirst : l.findIdx? (notG o) = if l = [] then none else some 0 := by
      cases l with
      | nil => rfl
      | cons w t =>
        rw [if_neg (by simp), List.findIdx?_cons]
        have : notG o w = true := by
          unfold notG
          have : w.1 ≠ o := fun e => hout (mem_whos.2 (by simp [e]))
          simpa using this
        rw [this]; rfl
    rw [wfirst_eq l o (by omega), if_pos h, if_neg (by omega), hfirst, same_eq (by have := List.length_filter_le (notG g) l; omega)]
    simp only [Option.bind_some]
    have hsame : (l.filter (notG g) = l) ↔ ¬ g ∈ whos l := by
      rw [List.filter_eq_self, mem_whos]
      constructor
      · rintro h1 h2
        obtain ⟨w, hw, e⟩ := List.mem_map.1 h2
        have := h1 w hw
        unfold notG at this
        have e : w.1 = g := e
        simp [e] at this
      · intro h1 w hw
        unfold notG
        have : w.1 ≠ g := fun e => h1 (List.mem_map.2 ⟨w, hw, e⟩)
        simpa using this
    rw [bif_t (by rfl), bif_t (by rfl), bif_t (by rfl), bif_t (by
      show (decide (l.filter (notG g) = l) == !decide (g ∈ whos l)) = true
      by_cases hx : g ∈ whos l
      · rw [decide_eq_true hx, decide_eq_false (fun e => hsame.1 e hx)]; rfl
      · rw [decide_eq_false hx, decide_eq_true (hsame.2 hx)]; rfl)]
    cases l with
    | nil => rfl
    | cons w t =>
      have hb : Ty.beq (.pair (.int .i64) (.pair (.int .i64) (.int .i64))) ((w :: t).getD 0 zeroW) (getAt ((0 : Int), ((0 : Int), (0 : Int))) (w :: t) (toN 0)) = true := bqW w
      rw [if_neg (by simp)]
      simp only
      rw [bif_t (by simp [Ty.beq]), bif_f (by simp; omega), bif_t (by rw [inbL]; simp)]
      exact congrArg some hb
  · rw [if_neg h]
    rfl
theorem waitsWho_law (x : HL [.slice (.pair (.int .i64) (.pair (.int .i64) (.int .i64))), .int .i64]) (h : wfHL [.slice (.pair (.int .i64) (.pair (.int .i64) (.int .i64))), .int .i64] x) : F_plaitlaw05_WaitsWho x = some true := waitsWho x.1 x.2
end Go.Proofs.Ytegbkaaibgdheaa.VX.VxB_O
