/- Plain laws of trace: events, told once over, whoever tells them. -/
import Derived.Test.YtkeolcgggondnaaVl3
set_option linter.unusedVariables false
set_option linter.unusedSimpArgs false
namespace Go.Proofs.Ytkeolcgggondnaa.VX.VxF_T
abbrev Ev := Int × (Int × (Int × (Int × Int)))
def zEv : Ev := (0, 0, 0, 0, 0)
abbrev Ev.G (e : Ev) : Int := e.1
abbrev Ev.K (e : Ev) : Int := e.2.1
abbrev Ev.O (e : Ev) : Int := e.2.2.1
abbrev Ev.N (e : Ev) : Int := e.2.2.2.1
abbrev Ev.S (e : Ev) : Int := e.2.2.2.2
/-- How many there are of a kind and an object. -/
def cntE (l : List Ev) (k o : Int) : Nat := (l.filter fun e => e.2.1 == k && e.2.2.1 == o).length
def cntK (l : List Ev) (k : Int) : Nat := (l.filter fun e => e.2.1 == k).length
/-- One more than the place of the last of a goroutine; 0: there is none. -/
def lastE (g : Int) : List Ev → Nat → Nat
  | [], _ => 0
  | e :: l, n => if lastE g l (n + 1) = 0 then (if e.1 = g then n + 1 else 0) else lastE g l (n + 1)
/-- One more than who came first to a once; 0: nobody. -/
def firstE (o : Int) : List Ev → Int
  | [] => 0
  | e :: l => if e.2.1 = 13 ∧ e.2.2.1 = o then e.1 + 1 else firstE o l
theorem cntE_app (l : List Ev) (e : Ev) (k o : Int) : cntE (l ++ [e]) k o = cntE l k o + if e.2.1 = k ∧ e.2.2.1 = o then 1 else 0 := by
  unfold cntE
  rw [List.filter_append, List.length_append]
  congr 1
  by_cases h : e.2.1 = k ∧ e.2.2.1 = o
  · rw [if_pos h, List.filter_cons_of_pos (by simpa using h)]; rfl
  · rw [if_neg h, List.filter_cons_of_neg (by simpa using h)]; rfl
theorem cntK_app (l : List Ev) (e : Ev) (k : Int) : cntK (l ++ [e]) k = cntK l k + if e.2.1 = k then 1 else 0 := by
  unfold cntK
  rw [List.filter_append, List.length_append]
  congr 1
  by_cases h : e.2.1 = k
  · rw [if_pos h, List.filter_cons_of_pos (by simpa using h)]; rfl
  · rw [if_neg h, List.filter_cons_of_neg (by simpa using h)]; rfl
theorem cntE_le (l : List Ev) (k o : Int) : cntE l k o ≤ l.length := List.length_filter_le _ _
theorem cntK_le (l : List Ev) (k : Int) : cntK l k ≤ l.length := List.length_filter_le _ _
theorem lastE_app (g : Int) (e : Ev) : ∀ (l : List Ev) (n : Nat), lastE g (l ++ [e]) n = if e.1 = g then n + l.length + 1 else lastE g l n
  | [], n => by
    show (if (0 : Nat) = 0 then (if e.1 = g then n + 1 else 0) else 0) = _
    rw [if_pos rfl]; rfl
  | a :: l, n => by
    show (if lastE g (l ++ [e]) (n + 1) = 0 then (if a.1 = g then n + 1 else 0) else lastE g (l ++ [e]) (n + 1)) = _
    rw [lastE_app g e l (n + 1)]
    by_cases h : e.1 = g
    · rw [if_pos h, if_pos h, if_neg (by omega)]; simp; omega
    · rw [if_neg h, if_neg h]; rfl
theorem lastE_le (g : Int) : ∀ (l : List Ev) (n : Nat), lastE g l n ≤ n + l.length
  | [], n => Nat.zero_le _
  | a :: l, n => by
    have := lastE_le g l (n + 1)
    simp only [lastE, List.length_cons]
    split
    · split <;> omega
    · omega
theorem firstE_cons (o : Int) (a : Ev) (l : List Ev) : firstE o (a :: l) = if a.2.1 = 13 ∧ a.2.2.1 = o then a.1 + 1 else firstE o l := rfl
theorem firstE_app (o : Int) (e : Ev) : ∀ l : List Ev, (∀ x ∈ l, 0 ≤ x.1) → firstE o (l ++ [e]) = if firstE o l = 0 then (if e.2.1 = 13 ∧ e.2.2.1 = o then e.1 + 1 else 0) else firstE o l
  | [], _ => by
    show (if e.2.1 = 13 ∧ e.2.2.1 = o then e.1 + 1 else 0) = if (0 : Int) = 0 then _ else _
    rw [if_pos (c := (0 : Int) = 0) rfl]
  | a :: l, hG => by
    have h0 := hG a (List.mem_cons_self ..)
    rw [List.cons_append, firstE_cons, firstE_cons]
    by_cases h : a.2.1 = 13 ∧ a.2.2.1 = o
    · rw [if_pos h, if_pos h, if_neg (by omega)]
    · rw [if_neg h, if_neg h, firstE_app o e l (fun x hx => hG x (List.mem_cons_of_mem _ hx))]
end Go.Proofs.Ytkeolcgggondnaa.VX.VxF_T
namespace Go.Proofs.Ytkeolcgggondnaa.VX.VxF_T
def getE (l : List Ev) (s : Int) : Ev := l.getD s.toNat zEv
def begK (k : Int) : Prop := k = 0 ∨ k = 3 ∨ k = 5 ∨ k = 6 ∨ k = 9 ∨ k = 11 ∨ k = 15
instance (k : Int) : Decidable (begK k) := by unfold begK; infer_instance
def orgK (k : Int) : Int := if k = 3 then 2 else if k = 5 ∨ k = 6 then 4 else if k = 9 then 8 else if k = 11 then 10 else 13
def numK (k : Int) : Prop := k = 3 ∨ k = 5
instance (k : Int) : Decidable (numK k) := by unfold numK; infer_instance
def objK (caps : List Int) (k : Int) : Int := if 2 ≤ k ∧ k ≤ 7 then caps.length else if 10 ≤ k ∧ k ≤ 15 then 2 else if 8 ≤ k ∧ k ≤ 17 then 4 else 1
def capO (caps : List Int) (o : Int) : Int := caps.getD o.toNat 0
/-- An event's own fields. -/
def shapeE (l : List Ev) (e : Ev) : Prop := 0 ≤ e.1 ∧ e.1 ≤ 7 ∧ 0 ≤ e.2.1 ∧ e.2.1 ≤ 17 ∧ 0 ≤ e.2.2.2.1 ∧ -1 ≤ e.2.2.2.2 ∧ e.2.2.2.2 < l.length
def startE (l : List Ev) (e : Ev) : Prop := lastE e.1 l 0 = 0 ∧ e.2.2.1 = 0 ∧ e.2.2.2.1 = 0 ∧ (if e.1 = 0 then e.2.2.2.2 = -1 else 0 ≤ e.2.2.2.2 ∧ (getE l e.2.2.2.2).2.1 = 1 ∧ (getE l e.2.2.2.2).2.2.1 = e.1)
def fromE (l : List Ev) (e : Ev) : Prop := if begK e.2.1 then 0 ≤ e.2.2.2.2 ∧ e.2.2.2.2 + 1 = lastE e.1 l 0 ∧ ((getE l e.2.2.2.2).2.1 = orgK e.2.1 ∧ (getE l e.2.2.2.2).2.2.1 = e.2.2.1 ∨ (getE l e.2.2.2.2).2.1 = 8 ∧ e.2.1 ≤ 6) else e.2.2.2.2 = -1
def ruleE (caps : List Int) (l : List Ev) (e : Ev) : Prop :=
  (e.2.1 = 1 → e.2.2.1 = cntK l 0) ∧
  (e.2.1 = 3 → 0 ≤ capO caps e.2.2.1 ∧ cntE l 7 e.2.2.1 = 0 ∧ e.2.2.2.1 = cntE l 3 e.2.2.1 ∧ e.2.2.2.1 ≤ cntE l 5 e.2.2.1 + capO caps e.2.2.1) ∧
  (e.2.1 = 5 → 0 ≤ capO caps e.2.2.1 ∧ e.2.2.2.1 = cntE l 5 e.2.2.1 ∧ e.2.2.2.1 ≤ cntE l 3 e.2.2.1) ∧
  (e.2.1 = 6 → 0 < cntE l 7 e.2.2.1 ∧ cntE l 5 e.2.2.1 = cntE l 3 e.2.2.1) ∧
  (e.2.1 = 7 → 0 ≤ capO caps e.2.2.1 ∧ cntE l 7 e.2.2.1 = 0) ∧
  (e.2.1 = 11 → cntE l 11 e.2.2.1 = cntE l 12 e.2.2.1) ∧
  (e.2.1 = 12 → (cntE l 11 e.2.2.1 : Int) - cntE l 12 e.2.2.1 = 1) ∧
  (e.2.1 = 14 → cntE l 14 e.2.2.1 = 0 ∧ firstE e.2.2.1 l = e.1 + 1) ∧
  (e.2.1 = 15 → 0 < cntE l 14 e.2.2.1)
/-- An event that may come behind others. -/
def goodE (caps : List Int) (l : List Ev) (e : Ev) : Prop :=
  shapeE l e ∧ if e.2.1 = 0 then startE l e else lastE e.1 l 0 ≠ 0 ∧ (¬ numK e.2.1 → e.2.2.2.1 = 0) ∧ (e.2.1 ≠ 1 → 0 ≤ e.2.2.1 ∧ e.2.2.1 < objK caps e.2.1) ∧ fromE l e ∧ ruleE caps l e
/-- Events each of which may come behind those ahead of it. -/
def GoodL (caps : List Int) (l : List Ev) : Prop := ∀ i (h : i < l.length), goodE caps (l.take i) l[i]
theorem goodL_G {caps : List Int} {l : List Ev} (h : GoodL caps l) : ∀ x ∈ l, 0 ≤ x.1 := by
  intro x hx
  obtain ⟨i, hi, e⟩ := List.mem_iff_getElem.1 hx
  have := (h i hi).1.1
  rw [e] at this; exact this
theorem cnt_pos {l : List Ev} {k o : Int} (h : 0 < cntE l k o) : ∃ x ∈ l, x.2.1 = k ∧ x.2.2.1 = o := by
  unfold cntE at h
  obtain ⟨x, hx⟩ := List.exists_mem_of_length_pos h
  have := List.mem_filter.1 hx
  exact ⟨x, this.1, by simpa using this.2⟩
/-- A channel that was closed is not nil. -/
theorem closed_open {caps : List Int} {l : List Ev} (h : GoodL caps l) {o : Int} (hc : 0 < cntE l 7 o) : 0 ≤ capO caps o := by
  obtain ⟨x, hx, h1, h2⟩ := cnt_pos hc
  obtain ⟨i, hi, e⟩ := List.mem_iff_getElem.1 hx
  have := (h i hi).2
  rw [e, if_neg (by rw [h1]; decide)] at this
  have := this.2.2.2.2.2.2.2.2.1 h1
  rw [h2] at this
  exact this.1
end Go.Proofs.Ytkeolcgggondnaa.VX.VxF_T
