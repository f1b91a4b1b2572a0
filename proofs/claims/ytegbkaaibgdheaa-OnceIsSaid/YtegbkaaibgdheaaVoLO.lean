/- LocksOrder: the plain form answers true. -/
import Derived.Test.YtegbkaaibgdheaaVoLocks2
import Derived.Test.YtegbkaaibgdheaaVoWO
set_option linter.unusedVariables false
set_option linter.unusedSimpArgs false
namespace Go.Proofs.Ytegbkaaibgdheaa.VX.VxB_O
open Go.Proofs
theorem waiting_eq (l : Lk) (hl : l.2.length < 4611686018427387904) : F_locks_Waiting l = some (if lOK l then ((l.2.length : Int), 0) else (0, 1)) := by
  unfold F_locks_Waiting
  rw [lRight_eq _ hl]
  simp only [Option.bind_some]
  by_cases h : lOK l
  · rw [bif_f (by simpa using h), if_pos h]
  · rw [bif_t (by simpa using h), if_neg h]
theorem lalive_eq : F_plaitlaw10_alive () = some true := by
  unfold F_plaitlaw10_alive
  rw [take_eq _ _ (by decide), if_pos (by decide), if_pos rfl]
  simp only [Option.bind_some]
  rw [take_eq _ _ (by decide), if_pos (by decide), if_neg (by decide), if_pos (by decide)]
  simp only [Option.bind_some]
  rw [give_eq _ (by decide), if_pos (by decide), if_neg (by decide)]
  rfl

theorem lo_inner (ho ta gi g : Int) (is : Bool) (e : Int) (s : List Int) (n k : Int) (l nl : Lk) (line : List Int) (hl : line.length ≤ 200) :
    loop L_plaitlaw10_LocksOrder_13v3 (ho, ta, gi, g, is, e, false, s, n, k, (line.length : Int), 0, l, nl, line) = some (ho, ta, gi, g, is, e, decide (g ∈ line), s, n, k, l, nl, line) := by
  have := loop_count (f := L_plaitlaw10_LocksOrder_13v3) line.length (fun j => (ho, ta, gi, g, is, e, decide (g ∈ line.take j), s, n, k, (line.length : Int), (j : Int), l, nl, line)) (ho, ta, gi, g, is, e, decide (g ∈ line), s, n, k, l, nl, line) (fun j hj => by
    unfold L_plaitlaw10_LocksOrder_13v3
    simp only
    rw [bif_t (by simpa using hj), bif_t (inb_nat hj), toN_nat, getAtL _ hj, wrapI (by omega) (by omega), List.take_succ_eq_append_getElem hj]
    by_cases h : g ∈ line.take j
    · rw [bif_t (by simpa using h), decide_eq_true (List.mem_append_left _ h)]; rfl
    · rw [bif_f (by simpa using h)]
      simp only [List.mem_append, h, false_or, List.mem_singleton]
      have : (line[j] == g) = decide (g = line[j]) := by
        by_cases hg : g = line[j]
        · simp [← hg]
        · simp [hg]; exact fun e => hg e.symm
      rw [this]; rfl) (by
    unfold L_plaitlaw10_LocksOrder_13v3
    simp only
    rw [bif_f (by simp), List.take_length]) 0 (Nat.zero_le _)
  simpa using this
def loI (l : Lk) : Prop := (∀ w ∈ l.2, isW w ∧ w.1 < 9 ∧ w.2.1 = 0) ∧ (l.2.map (·.1)).Nodup ∧ (l.1 = true ∨ l.2.length = 0)
theorem loI_len {l : Lk} (h : loI l) : l.2.length ≤ 9 := by
  have := nodup_len (α := Int) (l.2.map (·.1)) [0, 1, 2, 3, 4, 5, 6, 7, 8] h.2.1 (fun x hx => by
    obtain ⟨w, hw, rfl⟩ := List.mem_map.1 hx
    obtain ⟨⟨a1, a2, a3⟩, b1, b2⟩ := h.1 w hw
    have : w.1 = 0 ∨ w.1 = 1 ∨ w.1 = 2 ∨ w.1 = 3 ∨ w.1 = 4 ∨ w.1 = 5 ∨ w.1 = 6 ∨ w.1 = 7 ∨ w.1 = 8 := by omega
    simpa using this)
  simpa using this
theorem loI_key {l : Lk} (h : loI l) (g i : Int) : keyW (g, 0, i) ∈ l.2.map keyW ↔ g ∈ l.2.map (·.1) := by
  simp only [List.mem_map]
  constructor
  · rintro ⟨w, hw, e⟩
    exact ⟨w, hw, congrArg Prod.fst e⟩
  · rintro ⟨w, hw, e⟩
    exact ⟨w, hw, by unfold keyW; rw [e, (h.1 w hw).2.2]⟩
theorem loI_ok {l : Lk} (h : loI l) : lOK l := by
  have := loI_len h
  refine ⟨⟨fun w hw => (h.1 w hw).1, by omega, ?_⟩, h.2.2⟩
  have h2 := h.2.1
  unfold List.Nodup at h2 ⊢
  rw [List.pairwise_map] at h2 ⊢
  exact h2.imp fun hab e => hab (congrArg (fun k : K => k.1) e)
theorem loI_add {l : Lk} (h : loI l) {g i : Int} (h0 : 0 ≤ g) (h1 : g < 9) (h2 : 0 ≤ i) (h3 : g ∉ l.2.map (·.1)) : loI (true, l.2 ++ [(g, 0, i)]) := by
  refine ⟨fun x hx => ?_, ?_, .inl rfl⟩
  · rcases List.mem_append.1 hx with hx | hx
    · exact h.1 x hx
    · rw [List.mem_singleton.1 hx]; exact ⟨⟨h0, Int.le_refl _, h2⟩, h1, rfl⟩
  · show (List.map _ (l.2 ++ _)).Nodup
    rw [List.map_append, List.nodup_append]
    refine ⟨h.2.1, by simp, fun a ha b hb => ?_⟩
    simp only [List.map_cons, List.map_nil, List.mem_singleton] at hb
    subst hb
    exact fun e => h3 (e ▸ ha)
def loS (s : List Int) (x : Int × Int × Int × List Int × Int × Int × Lk × List Int) : Prop := ∃ (ho gi : Int) (k : Nat) (l : Lk), x = (ho, gi + (if l.1 then 1 else 0), gi, s, (s.length : Int), (k : Int), l, l.2.map (·.1)) ∧
  k ≤ s.length ∧ loI l ∧ 0 ≤ gi ∧ gi ≤ k ∧ ((l.1 = true ∧ 0 ≤ ho) ∨ (l.1 = false ∧ ho = -1))
theorem lo_loop (s : List Int) (hs : s.length ≤ 150) : loop L_plaitlaw10_LocksOrder_6 (Int.negSucc 0, 0, 0, s, (s.length : Int), 0, (false, []), []) = some (.inr ()) := by
  obtain ⟨y, h1, h2⟩ := loop_rule (f := L_plaitlaw10_LocksOrder_6) (loS s) (fun y => y = .inr ()) (fun x => s.length - x.2.2.2.2.2.1.toNat) (by
    rintro x ⟨ho, gi, k, l, rfl, hk, h, hg0, hg1, hh⟩
    have hl := loI_len h
    have hll : (l.2.map (·.1)).length = l.2.length := List.length_map ..
    unfold L_plaitlaw10_LocksOrder_6
    simp only
    by_cases hlt : k < s.length
    · left
      have hw1 : IntKind.wrap .i64 ((k : Int) + 1) = (k : Int) + 1 := wrapI (by omega) (by omega)
      have hw2 : IntKind.wrap .i64 (gi + 1) = gi + 1 := wrapI (by omega) (by omega)
      have hw3 : IntKind.wrap .i64 (gi + 1 + 1) = gi + 1 + 1 := wrapI (by omega) (by omega)
      rw [bif_t (by simpa using hlt), bif_t (inb_nat hlt), toN_nat]
      generalize getAt (0 : Int) s k = v
      have hG := tm5 (IntKind.wrap .i64 (Int.tdiv v 2)) 9 (by omega) (by omega)
      generalize Int.tmod (IntKind.wrap .i64 (Int.tmod (IntKind.wrap .i64 (Int.tdiv v 2)) 9 + 9)) 9 = G at *
      have hm : ∀ (x : Int × Int × Int × List Int × Int × Int × Lk × List Int), x.2.2.2.2.2.1 = (k : Int) + 1 → s.length - x.2.2.2.2.2.1.toNat < s.length - (k : Int).toNat := fun x e => by rw [e]; omega
      by_cases hev : Int.tmod v 2 = 0
      · rw [bif_t (by simpa using hev), take_eq l _ (by omega), if_pos ⟨loI_ok h, show isW (G, 0, (k : Int)) from ⟨hG.1, Int.le_refl _, by simp only; omega⟩⟩]
        simp only [Option.bind_some]
        rw [lo_inner _ _ _ _ _ _ _ _ _ _ _ _ (by omega)]
        simp only [Option.bind_some]
        rcases hh with ⟨hb, hho⟩ | ⟨hb, hho⟩
        · rw [if_neg (by simp [hb])]
          have hok := (loI_ok h).1
          by_cases hin : G ∈ l.2.map (·.1)
          · have hp : pushW l.2 (G, 0, (k : Int)) = ([], 7) := by unfold pushW; rw [if_pos hok, if_pos (show isW (G, 0, (k : Int)) from ⟨hG.1, Int.le_refl _, by simp only; omega⟩), if_pos ((loI_key h G k).2 hin)]
            rw [hp, if_neg (by decide)]
            simp only
            rw [bif_t (by simpa using hin), bif_f (by rfl), hw1]
            exact ⟨_, rfl, ⟨ho, gi, k + 1, l, rfl, hlt, h, hg0, by omega, .inl ⟨hb, hho⟩⟩, hm _ rfl⟩
          · have hp : pushW l.2 (G, 0, (k : Int)) = (l.2 ++ [(G, 0, (k : Int))], 0) := by unfold pushW; rw [if_pos hok, if_pos (show isW (G, 0, (k : Int)) from ⟨hG.1, Int.le_refl _, by simp only; omega⟩), if_neg (fun e => hin ((loI_key h G k).1 e)), if_neg (by omega)]
            have h' := loI_add h hG.1 hG.2 (show (0 : Int) ≤ k by omega) hin
            have hl' := loI_len h'
            simp only at hl'
            rw [hp, if_pos rfl]
            simp only
            rw [bif_f (by simpa using hin), bif_f (by rfl), bif_f (by simp [Ty.beq]; omega), bif_f (by rfl), bif_t (fits_iff.2 (by simp at hl' ⊢; omega)), waiting_eq _ (by simp only; omega), if_pos (loI_ok h')]
            simp only [Option.bind_some]
            rw [bif_f (by rfl), bif_f (by simp), bif_f (by simp [Ty.beq, hho]), bif_f (by simp [Ty.beq, hb, hw2]), bif_f (by simp [hb]; omega), hw1]
            refine ⟨_, rfl, ⟨ho, gi, k + 1, _, ?_, hlt, h', hg0, by omega, .inl ⟨rfl, hho⟩⟩, hm _ rfl⟩
            simp [hb]
        · have hnil : l.2 = [] := by
            rcases h.2.2 with e | e
            · rw [hb] at e; cases e
            · exact List.length_eq_zero_iff.1 e
          rw [if_pos hb, hnil]
          simp only
          have h' : loI (true, []) := ⟨fun w hw => by simp at hw, by simp, .inl rfl⟩
          rw [bif_f (by simp), bif_f (by rfl), bif_f (by simp [Ty.beq]; omega), bif_t (by rfl), waiting_eq _ (by simp), if_pos (loI_ok h')]
          simp only [Option.bind_some]
          have h0 : gi + (if l.1 = true then 1 else 0) = gi := by simp [hb]
          rw [h0, hw2, hw1, bif_f (by rfl), bif_f (by simp), bif_f (by simp [Ty.beq]; omega), bif_f (by simp [Ty.beq]), bif_f (by simp; omega)]
          refine ⟨_, rfl, ⟨G, gi, k + 1, (true, []), ?_, hlt, h', hg0, by omega, .inl ⟨rfl, hG.1⟩⟩, hm _ rfl⟩
          simp
      · rw [bif_f (by simpa using hev), give_eq l (by omega), if_pos (loI_ok h)]
        rcases hh with ⟨hb, hho⟩ | ⟨hb, hho⟩
        · have h0 : gi + (if l.1 = true then 1 else 0) = gi + 1 := by simp [hb]
          rw [if_neg (by simp [hb]), h0]
          simp only [Option.bind_some]
          rw [bif_f (by simp; omega), bif_f (by rfl)]
          cases hq : l.2 with
          | nil =>
            simp only [given, List.map_nil, List.length_nil]
            have h' : loI (false, []) := ⟨fun w hw => by simp at hw, by simp, .inr rfl⟩
            rw [bif_f (by simp [Ty.beq]), bif_f (by rfl), waiting_eq _ (by simp), if_pos (loI_ok h')]
            simp only [Option.bind_some]
            rw [hw2, hw3, hw1, bif_f (by rfl), bif_f (by simp), bif_f (by simp [Ty.beq]), bif_f (by simp [Ty.beq]; omega), bif_f (by simp)]
            refine ⟨_, rfl, ⟨-1, gi + 1, k + 1, (false, []), ?_, hlt, h', by omega, by omega, .inr ⟨rfl, rfl⟩⟩, hm _ rfl⟩
            simp
          | cons w t =>
            have hwm := h.1 w (by rw [hq]; simp)
            have h' : loI (true, t) := by
              refine ⟨fun x hx => h.1 x (by rw [hq]; simp at hx; simp [hx]), ?_, .inl rfl⟩
              have := h.2.1
              rw [hq, List.map_cons] at this
              exact (List.nodup_cons.1 this).2
            have hl' := loI_len h'
            simp only at hl'
            have hcut : cut (w.1 :: t.map (·.1)) (toN 1) (toN (((w.1 :: t.map (·.1)).length : Nat) : Int) - toN 1) = t.map (·.1) := by
              unfold cut
              rw [toN_nat]
              show (List.drop 1 _).take _ = _
              rw [List.drop_succ_cons, List.drop_zero, List.take_of_length_le (by simp [toN])]
            simp only [given, List.map_cons]
            have hget : getAt (0 : Int) (w.1 :: t.map (·.1)) (toN 0) = w.1 := rfl
            have hin0 : inb 0 (w.1 :: t.map (·.1)).length = true := by rw [inbL]; simp
            rw [bif_f (by simp [Ty.beq]), bif_t (by rfl), bif_t hin0, hget, bif_f (by simp), bif_t hin0, bif_t (sub3L.2 (by simp; omega)), waiting_eq _ (by simp only; omega), if_pos (loI_ok h'), hcut]
            simp only [Option.bind_some]
            rw [hw2, hw3, hw1, bif_f (by rfl), bif_f (by simp), bif_f (by simp [Ty.beq]; exact hwm.1.1), bif_f (by simp [Ty.beq]), bif_f (by simp; omega)]
            refine ⟨_, rfl, ⟨w.1, gi + 1, k + 1, (true, t), ?_, hlt, h', by omega, by omega, .inl ⟨rfl, hwm.1.1⟩⟩, hm _ rfl⟩
            simp
        · rw [if_pos hb]
          simp only [Option.bind_some]
          rw [bif_t (by simp; omega), bif_f (by rfl), hw1]
          exact ⟨_, rfl, ⟨ho, gi, k + 1, l, rfl, hlt, h, hg0, by omega, .inr ⟨hb, hho⟩⟩, hm _ rfl⟩
    · right
      rw [bif_f (by simpa using hlt)]
      exact ⟨_, rfl, rfl⟩) (Int.negSucc 0, 0, 0, s, (s.length : Int), 0, (false, []), []) ⟨-1, 0, 0, (false, []), rfl, Nat.zero_le _, ⟨fun w hw => by simp at hw, by simp, .inr rfl⟩, Int.le_refl _, Int.le_refl _, .inr ⟨rfl, rfl⟩⟩
  rw [h1, h2]
theorem cut_min {α : Type} (s : List α) (n : Nat) (c : Int) (hc : c = n) : cut s (toN 0) (toN (min ((s.length : Nat) : Int) c) - toN 0) = s.take n := by
  subst hc
  unfold cut toN
  simp only [List.drop_zero, Int.toNat_zero, Nat.sub_zero]
  rcases Nat.le_total s.length n with h | h
  · rw [List.take_of_length_le (by omega), List.take_of_length_le h]
  · congr 1; omega
theorem locksOrder (s : List Int) : F_plaitlaw10_LocksOrder s = some true := by
  unfold F_plaitlaw10_LocksOrder
  rw [bif_t (sub3L.2 (by omega)), cut_min s 150 150 rfl]
  have hl : (s.take 150).length ≤ 150 := by simp; omega
  rw [lo_loop _ hl]
  simp only [Option.bind_some]
  rw [lalive_eq]
  rfl
theorem locksOrder_law (x : HL [.slice (.int .i64)]) (h : wfHL [.slice (.int .i64)] x) : F_plaitlaw10_LocksOrder x = some true := locksOrder x
end Go.Proofs.Ytegbkaaibgdheaa.VX.VxB_O
