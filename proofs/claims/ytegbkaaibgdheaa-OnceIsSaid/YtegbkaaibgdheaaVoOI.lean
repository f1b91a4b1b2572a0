/- OnceIs: the plain form answers true. -/
import Derived.Test.YtegbkaaibgdheaaVoOnce
set_option linter.unusedVariables false
set_option linter.unusedSimpArgs false
namespace Go.Proofs.Ytegbkaaibgdheaa.VX.VxB_O
open Go.Proofs
theorem oi26 (b : Int) (d : Bool) (f g k e : Int) (s : List Int) (n i : Int) (o nw : On) (line : List Int) (hl : line.length ≤ 200) :
    loop L_plaitlaw11_OnceIs_26v3 (b, d, f, g, k, e, false, s, n, i, (line.length : Int), 0, o, nw, line) = some (b, d, f, g, k, e, decide (g ∈ line), s, n, i, o, nw, line) := by
  have := loop_count (f := L_plaitlaw11_OnceIs_26v3) line.length (fun j => (b, d, f, g, k, e, decide (g ∈ line.take j), s, n, i, (line.length : Int), (j : Int), o, nw, line)) (b, d, f, g, k, e, decide (g ∈ line), s, n, i, o, nw, line) (fun j hj => by
    unfold L_plaitlaw11_OnceIs_26v3
    simp only
    rw [bif_t (by simpa using hj), bif_t (inb_nat hj), toN_nat, getAtL _ hj, wrapI (by omega) (by omega), List.take_succ_eq_append_getElem hj]
    by_cases h : g ∈ line.take j
    · rw [bif_t (by simpa using h), decide_eq_true (List.mem_append_left _ h)]; rfl
    · rw [bif_f (by simpa using h)]
      simp only [List.mem_append, h, false_or, List.mem_singleton]
      have : (line[j] == g) = decide (g = line[j]) := by
        by_cases hg : g = line[j]
        · simp [← hg]
        · simp [hg]; exact fun e => hg e.symm
      rw [this]; rfl) (by
    unfold L_plaitlaw11_OnceIs_26v3
    simp only
    rw [bif_f (by simp), List.take_length]) 0 (Nat.zero_le _)
  simpa using this
theorem oi17 (b f : Int) (q : List W) (s : List Int) (n i : Int) (o nw : On) (hl : q.length ≤ 200) :
    loop L_plaitlaw11_OnceIs_17v3 (b, f, q, s, n, i, ((q.map (·.1)).length : Int), 0, o, nw, q.map (·.1)) = some (.inr (b, f, s, n, i, o, nw)) := by
  refine loop_count (f := L_plaitlaw11_OnceIs_17v3) (q.map (·.1)).length (fun j => (b, f, q, s, n, i, ((q.map (·.1)).length : Int), (j : Int), o, nw, q.map (·.1))) (.inr (b, f, s, n, i, o, nw)) (fun j hj => ?_) ?_ 0 (Nat.zero_le _)
  · have hj' : j < q.length := by simpa using hj
    unfold L_plaitlaw11_OnceIs_17v3
    simp only
    rw [bif_t (by simpa using hj'), bif_t (inb_nat hj), bif_t (inb_nat hj'), toN_nat, getAtL _ hj, wrapI (by omega) (by omega)]
    rw [show getAt ((0 : Int), ((0 : Int), (0 : Int))) q j = q[j] from getAtL _ hj', bif_f (by simp)]
    rfl
  · unfold L_plaitlaw11_OnceIs_17v3
    simp only
    rw [bif_f (by simp)]
def oiP (b : Int) (d : Bool) (f : Int) (o : On) (line : List Int) : Prop :=
  (b = -1 ∧ d = false ∧ f = 0 ∧ o = (0, 0, []) ∧ line = []) ∨
  (∃ q, 0 ≤ b ∧ d = false ∧ f = 1 ∧ o = (1, b, q) ∧ line = q.map (·.1) ∧ loI (true, q) ∧ ∀ w ∈ q, w.1 ≠ b) ∨
  (0 ≤ b ∧ d = true ∧ f = 1 ∧ o = (2, 0, []) ∧ line = [])
theorem oiP_ok {b : Int} {d : Bool} {f : Int} {o : On} {line : List Int} (h : oiP b d f o line) : oOK o ∧ o.2.2.length ≤ 9 ∧ line.length ≤ 9 ∧ f ≤ 1 := by
  rcases h with ⟨_, _, rfl, rfl, rfl⟩ | ⟨q, hb, _, rfl, rfl, rfl, hq, hn⟩ | ⟨_, _, rfl, rfl, rfl⟩
  · exact ⟨by decide, by simp, by simp, by decide⟩
  · have := loI_len hq
    simp only at this
    exact ⟨⟨hb, (loI_ok hq).1, .inl ⟨rfl, hn⟩⟩, this, by simpa using this, by decide⟩
  · exact ⟨by decide, by simp, by simp, by decide⟩
def oiS (s : List Int) (x : Int × Bool × Int × List Int × Int × Int × On × List Int) : Prop := ∃ (b : Int) (d : Bool) (f : Int) (k : Nat) (o : On) (line : List Int), x = (b, d, f, s, (s.length : Int), (k : Int), o, line) ∧ k ≤ s.length ∧ oiP b d f o line
theorem oi_loop (s : List Int) (hs : s.length ≤ 100) : loop L_plaitlaw11_OnceIs_6 (Int.negSucc 0, false, 0, s, (s.length : Int), 0, (0, 0, []), []) = some (.inr ()) := by
  obtain ⟨y, h1, h2⟩ := loop_rule (f := L_plaitlaw11_OnceIs_6) (oiS s) (fun y => y = .inr ()) (fun x => s.length - x.2.2.2.2.2.1.toNat) (by
    rintro x ⟨b, d, f, k, o, line, rfl, hk, h⟩
    obtain ⟨hok, hl, hll, hf⟩ := oiP_ok h
    unfold L_plaitlaw11_OnceIs_6
    simp only
    by_cases hlt : k < s.length
    · left
      have hw1 : IntKind.wrap .i64 ((k : Int) + 1) = (k : Int) + 1 := wrapI (by omega) (by omega)
      rw [bif_t (by simpa using hlt), bif_t (inb_nat hlt), toN_nat]
      generalize getAt (0 : Int) s k = v
      have hG := tm5 (IntKind.wrap .i64 (Int.tdiv v 2)) 9 (by omega) (by omega)
      generalize Int.tmod (IntKind.wrap .i64 (Int.tmod (IntKind.wrap .i64 (Int.tdiv v 2)) 9 + 9)) 9 = G at *
      have fin : ∀ (b : Int) (d : Bool) (f : Int) (o : On) (line : List Int), oiP b d f o line → ∃ x', (some (.inl (b, d, f, s, (s.length : Int), (k : Int) + 1, o, line)) : Option ((Int × Bool × Int × List Int × Int × Int × On × List Int) ⊕ (Bool ⊕ Unit))) = some (.inl x') ∧ oiS s x' ∧ s.length - x'.2.2.2.2.2.1.toNat < s.length - (k : Int).toNat := by
        intro b d f o line h'
        refine ⟨_, rfl, ⟨b, d, f, k + 1, o, line, rfl, hlt, h'⟩, ?_⟩
        show s.length - ((k : Int) + 1).toNat < s.length - (k : Int).toNat
        omega
      have tail : ∀ (b : Int) (d : Bool) (f : Int) (o : On) (line : List Int), oiP b d f o line → ∃ x', (((F_once_Right o).bind fun r4 => bif (Bool.not r4) then some (.inr (.inl false)) else bif (decide (f > (1 : Int))) then some (.inr (.inl false)) else some (.inl (b, d, f, s, (s.length : Int), (k : Int) + 1, o, line))) : Option ((Int × Bool × Int × List Int × Int × Int × On × List Int) ⊕ (Bool ⊕ Unit))) = some (.inl x') ∧ oiS s x' ∧ s.length - x'.2.2.2.2.2.1.toNat < s.length - (k : Int).toNat := by
        intro b d f o line h'
        obtain ⟨hok', hl', _, hf'⟩ := oiP_ok h'
        rw [oRight_eq _ (by omega), decide_eq_true hok']
        simp only [Option.bind_some]
        rw [bif_f (by rfl), bif_f (by simp; omega)]
        exact fin b d f o line h'
      have hiw : isW (G, 0, (k : Int)) := ⟨hG.1, Int.le_refl _, by simp only; omega⟩
      by_cases hev : Int.tmod v 2 = 0
      · rw [bif_f (by simpa using hev), do_eq o _ (by omega), if_pos ⟨hok, hiw⟩]
        simp only [Option.bind_some]
        rw [oi26 _ _ _ _ _ _ _ _ _ _ _ _ (by omega)]
        simp only [Option.bind_some, hw1]
        rcases h with ⟨rfl, rfl, rfl, rfl, rfl⟩ | ⟨q, hb, rfl, rfl, rfl, rfl, hq, hn⟩ | ⟨hb, rfl, rfl, rfl, rfl⟩
        · have hd : done (0, 0, []) (G, 0, (k : Int)) = ((1, G, []), 0, 0) := rfl
          rw [hd, bif_f (by rfl), bif_t (by rfl), bif_f (by rfl), bif_f (by rfl), bif_t (by rfl)]
          rw [show IntKind.wrap .i64 ((0 : Int) + 1) = 1 from wrapI (by omega) (by omega)]
          exact tail _ _ _ _ _ (.inr (.inl ⟨[], hG.1, rfl, rfl, rfl, rfl, ⟨fun w hw => by simp at hw, by simp, .inl rfl⟩, fun w hw => by simp at hw⟩))
        · rw [bif_f (by rfl), bif_f (by simpa using hb)]
          by_cases hbg : b = G
          · have hd : done (1, b, q) (G, 0, (k : Int)) = (zeroO, 0, 6) := by unfold done; rw [if_neg (by simp), if_neg (by simp), if_pos hbg]
            rw [hd, bif_t (by simpa using hbg), bif_f (by rfl), bif_f (by rfl)]
            exact tail _ _ _ _ _ (.inr (.inl ⟨q, hb, rfl, rfl, rfl, rfl, hq, hn⟩))
          · rw [bif_f (by simpa using hbg)]
            by_cases hin : G ∈ q.map (·.1)
            · have hp : pushW q (G, 0, (k : Int)) = ([], 7) := by unfold pushW; rw [if_pos (loI_ok hq).1, if_pos hiw, if_pos ((loI_key hq G k).2 hin)]
              have hd : done (1, b, q) (G, 0, (k : Int)) = (zeroO, 0, 7) := by unfold done; rw [if_neg (by simp), if_neg (by simp), if_neg hbg, hp, if_neg (by simp)]
              rw [hd, bif_t (by simpa using hin), bif_f (by rfl), bif_f (by rfl)]
              exact tail _ _ _ _ _ (.inr (.inl ⟨q, hb, rfl, rfl, rfl, rfl, hq, hn⟩))
            · have hql := loI_len hq
              simp only at hql
              have hp : pushW q (G, 0, (k : Int)) = (q ++ [(G, 0, (k : Int))], 0) := by unfold pushW; rw [if_pos (loI_ok hq).1, if_pos hiw, if_neg (fun e => hin ((loI_key hq G k).1 e)), if_neg (by omega)]
              have hd : done (1, b, q) (G, 0, (k : Int)) = ((1, b, q ++ [(G, 0, (k : Int))]), 1, 0) := by unfold done; rw [if_neg (by simp), if_neg (by simp), if_neg hbg, hp, if_pos rfl]
              have h' := loI_add hq hG.1 hG.2 (show (0 : Int) ≤ k by omega) hin
              rw [hd, bif_f (by simpa using hin), bif_f (by rfl), bif_f (by rfl), bif_t (fits_iff.2 (by simp; omega)), bif_t (by rfl)]
              refine tail _ _ _ _ _ (.inr (.inl ⟨_, hb, rfl, rfl, rfl, by simp, h', fun w hw => ?_⟩))
              rcases List.mem_append.1 hw with hw | hw
              · exact hn w hw
              · rw [List.mem_singleton.1 hw]; exact fun e => hbg e.symm
        · have hd : done (2, 0, []) (G, 0, (k : Int)) = ((2, 0, []), 2, 0) := rfl
          rw [hd, bif_t (by rfl), bif_f (by rfl), bif_f (by rfl), bif_t (by rfl)]
          exact tail _ _ _ _ _ (.inr (.inr ⟨hb, rfl, rfl, rfl, rfl⟩))
      · rw [bif_t (by simpa using hev), end_eq o G (by omega), if_pos ⟨hok, hG.1⟩]
        simp only [Option.bind_some, hw1]
        rcases h with ⟨rfl, rfl, rfl, rfl, rfl⟩ | ⟨q, hb, rfl, rfl, rfl, rfl, hq, hn⟩ | ⟨hb, rfl, rfl, rfl, rfl⟩
        · have hd : ended (0, 0, []) G = (zeroO, [], 6) := by unfold ended; rw [if_neg (by simp)]
          rw [hd, bif_f (by simp; omega), bif_f (by rfl), bif_t (by rfl), bif_f (by rfl), bif_f (by rfl)]
          exact fin _ _ _ _ _ (.inl ⟨rfl, rfl, rfl, rfl, rfl⟩)
        · by_cases hbg : b = G
          · have hql := loI_len hq
            simp only at hql
            have hd : ended (1, b, q) G = ((2, 0, []), q, 0) := by unfold ended; rw [if_pos ⟨rfl, hbg⟩]
            rw [hd, bif_t (by simpa using hbg), bif_f (by rfl), bif_f (by rfl), bif_t (by rfl), bif_f (by simp), oi17 _ _ _ _ _ _ _ _ (show q.length ≤ 200 by omega)]
            simp only [Option.bind_some, hw1]
            exact fin _ _ _ _ _ (.inr (.inr ⟨hb, rfl, rfl, rfl, rfl⟩))
          · have hd : ended (1, b, q) G = (zeroO, [], 6) := by unfold ended; rw [if_neg (fun e => hbg e.2)]
            rw [hd, bif_f (by simpa using hbg), bif_f (by rfl), bif_t (by rfl), bif_f (by rfl), bif_f (by rfl)]
            exact fin _ _ _ _ _ (.inr (.inl ⟨q, hb, rfl, rfl, rfl, rfl, hq, hn⟩))
        · have hd : ended (2, 0, []) G = (zeroO, [], 6) := by unfold ended; rw [if_neg (by simp)]
          rw [hd]
          by_cases hbg : b = G
          · rw [bif_t (by simpa using hbg), bif_f (by rfl), bif_t (by rfl), bif_f (by rfl), bif_f (by rfl)]
            exact fin _ _ _ _ _ (.inr (.inr ⟨hb, rfl, rfl, rfl, rfl⟩))
          · rw [bif_f (by simpa using hbg), bif_f (by rfl), bif_t (by rfl), bif_f (by rfl), bif_f (by rfl)]
            exact fin _ _ _ _ _ (.inr (.inr ⟨hb, rfl, rfl, rfl, rfl⟩))
    · right
      rw [bif_f (by simpa using hlt)]
      exact ⟨_, rfl, rfl⟩) (Int.negSucc 0, false, 0, s, (s.length : Int), 0, (0, 0, []), []) ⟨-1, false, 0, 0, _, _, rfl, Nat.zero_le _, .inl ⟨rfl, rfl, rfl, rfl, rfl⟩⟩
  rw [h1, h2]
theorem onceIs (s : List Int) : F_plaitlaw11_OnceIs s = some true := by
  unfold F_plaitlaw11_OnceIs
  rw [bif_t (sub3L.2 (by omega)), cut_min s 100 100 rfl]
  have hl : (s.take 100).length ≤ 100 := by simp; omega
  rw [oi_loop _ hl]
  simp only [Option.bind_some]
  rw [oalive_eq]
  rfl
theorem onceIs_law (x : HL [.slice (.int .i64)]) (h : wfHL [.slice (.int .i64)] x) : F_plaitlaw11_OnceIs x = some true := onceIs x
end Go.Proofs.Ytegbkaaibgdheaa.VX.VxB_O
