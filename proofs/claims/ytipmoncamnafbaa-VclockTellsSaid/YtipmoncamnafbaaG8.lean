import Derived.Test.YtipmoncamnafbaaG7
import Derived.WalkMore
import Derived.ScopeJumps
import Derived.Laws.BitsLemmas
set_option linter.unusedVariables false
set_option linter.unusedSimpArgs false
namespace Go.Proofs.Ytipmoncamnafbaa.X
open Go.RowKit Go.Proofs.YtipmoncamnafbaaW.PrintWords Go.Proofs.YtipmoncamnafbaaW.PrintLast Go.Proofs.YtipmoncamnafbaaW.PrintMore

theorem wraps_i64 (n : Int) (h₀ : 0 ≤ n) (h₁ : n < 2 ^ 63) : IntKind.i64.wrap n = n := by rw [IntKind.wrap_i64]; omega
theorem and_mask (i : Nat) (hi : i ≤ 63) (n : Int) (h0 : 0 ≤ n) (h1 : n < 2 ^ 63) : bits .and .i64 n (2 ^ i - 1) = n % 2 ^ i := bits_mask .i64 63 (by decide) wraps_i64 i hi n h0 h1
theorem and127 (n : Int) (h0 : 0 ≤ n) (h1 : n < 2 ^ 63) : bits .and .i64 n 127 = n % 128 := and_mask 7 (by decide) n h0 h1
theorem or128 (d : Int) (h0 : 0 ≤ d) (h1 : d < 128) : bits .or .u8 d 128 = d + 128 := by
  have e : bits .or .u8 d 128 = bits .or .u8 128 d := by
    simp only [bits]; rw [BitVec.or_comm]
  rw [e, bits_join .u8 8 (by decide) wraps_u8 7 128 d (by decide) (by decide) (by decide) h0 h1 (by omega)]; omega

theorem next_put (n q d : Nat) (hn : n ≤ 2147483647) (he : n = 128 * q + d) (hd : d < 128) (g : Nat) (w : World) (hc : w.cell? ⟨g, 0, none⟩ = some (.int .i64 n)) (hf : w.frozen? ⟨g, 0, none⟩ = false) :
    Calls Try.prog 69 #[.pointer (some ⟨g, 0, none⟩)] w fun e w' => e = .returned (.int .u8 d) ∧ w' = w.setCell ⟨g, 0, none⟩ (.int .i64 q) := by
  have H1 := Lib.hid (and127 n (by omega) (by omega))
  have HE := Lib.hid he; clear he
  go_enter Try.func69, Try.ntmps69
  go_wp2
  go_ret
  have he := HE.out
  exact ⟨by show Ending.returned (.int .u8 (bits .and .i64 (n : Int) 127 % 256)) = _; rw [H1.out]; congr 2; omega, by congr 2; omega⟩

def isSmallB (a : Int) : Bool := decide (0 ≤ a) && decide (a ≤ 2147483647)
theorem small_calls (x : Int) (w : World) : Calls Try.prog 68 #[.int .i64 x] w fun e w' => e = .returned (.bool (isSmallB x)) ∧ w = w' := by
  by_cases h : 0 ≤ x
  · have h1 : decide (0 ≤ x) = true := by simpa using h
    go_enter Try.func68, Try.ntmps68
    go_wp2
    go_ret
    exact ⟨by simp [h, isSmallB], rfl⟩
  · have h1 : decide (0 ≤ x) = false := by simpa using h
    go_enter Try.func68, Try.ntmps68
    go_wp2
    go_ret
    exact ⟨by simp [isSmallB]; omega, rfl⟩

def putN (n : Nat) : List Int := if h : n < 128 then [(n : Int)] else ((n % 128 + 128 : Nat) : Int) :: putN (n / 128)
decreasing_by omega
def varint_Put.f (a0 : Int) : Option (ByteArray × Int) := some (if isSmallB a0 then (strOfNums (putN a0.toNat), 0) else (⟨#[]⟩, 1))
theorem info5u : (Try.prog.info? 5).map (fun i => (i.zero, i.size, i.bytes)) = some (some (.int .u8 0), 1, 1) := by kernel_rfl
def PutJ (w : World) (n m : Nat) (xs : List Int) (v : Value) (w' : World) : Prop :=
  m ≤ 2147483647 ∧ xs ++ putN m = putN n ∧ Hid (w'.cell? ⟨w.heap.size, 0, none⟩ = some (.int .i64 m)) ∧ Hid (w'.frozen? ⟨w.heap.size, 0, none⟩ = false) ∧
  Hid (Kd.R (Kd.int .u8) 5 w' w.heap.size (fun k => k ≠ w.heap.size) v xs) ∧ Hid (Below w.heap.size w w')
theorem putN_big (m q d : Nat) (he : m = 128 * q + d) (hd : d < 128) (h : 0 < q) : putN m = ((d : Int) + 128) :: putN q := by
  rw [putN, dif_neg (by omega)]
  have e1 : m / 128 = q := by omega
  have e2 : m % 128 = d := by omega
  rw [e1, e2]; rfl
theorem putN_small (m d : Nat) (he : m = d) (hd : d < 128) : putN m = [(d : Int)] := by
  subst he; rw [putN, dif_pos hd]
theorem putN_len_aux (f : Nat) : 0 < f → ∀ m, m < 128 ^ f → (putN m).length ≤ f := by
  induction f with
  | zero => intro hf m hm; omega
  | succ f ih =>
    intro hf m hm
    rw [putN]
    split
    · simp
    · by_cases hf0 : f = 0
      · subst hf0; simp at hm; omega
      · have := ih (by omega) (m / 128) (by rw [Nat.pow_succ] at hm; omega)
        simp; omega
theorem putN_len (m : Nat) (h : m ≤ 2147483647) : (putN m).length ≤ 5 := putN_len_aux 5 (by omega) m (by omega)

/-- the next digit is taken off -/
theorem PutJ.next {w : World} {n m : Nat} {xs : List Int} {v : Value} {w' : World} (h : PutJ w n m xs v w') (x : Value) :
    (w'.setCell ⟨w.heap.size, 0, none⟩ x).cell? ⟨w.heap.size, 0, none⟩ = some x ∧ (w'.setCell ⟨w.heap.size, 0, none⟩ x).frozen? ⟨w.heap.size, 0, none⟩ = false ∧
    Kd.R (Kd.int .u8) 5 (w'.setCell ⟨w.heap.size, 0, none⟩ x) w.heap.size (fun k => k ≠ w.heap.size) v xs ∧ Below w.heap.size w (w'.setCell ⟨w.heap.size, 0, none⟩ x) := by
  obtain ⟨h1, h2, h3, h4, h5, h6⟩ := h
  refine ⟨World.cell?_setCell_same w' _ x h3.out, ?_, Kd.R_far h5.out (fun _ hk => hk) x, below_setCell h6.out (Nat.le_refl _) 0 x⟩
  rw [World.frozen?_setCell]; exact h4.out

def cellNat (g : Nat) (w : World) : Nat := match w.cell? ⟨g, 0, none⟩ with | some (.int _ q) => q.toNat | _ => 0
theorem putJ_step {w : World} {n m q d : Nat} {xs : List Int} {v v1 : Value} {W w2 : World} (hm : m ≤ 2147483647) (hx : xs ++ putN m = putN n) (hqd : m = 128 * q + d) (hp : putN m = ((d : Int) + 128) :: putN q)
    (hc : Hid (W.cell? ⟨w.heap.size, 0, none⟩ = some (.int .i64 q))) (hf : Hid (W.frozen? ⟨w.heap.size, 0, none⟩ = false)) (hr : Hid (Kd.R (Kd.int .u8) 5 W w.heap.size (fun k => k ≠ w.heap.size) v xs))
    (ho : Hid (Kd.R (Kd.int .u8) 5 w2 w.heap.size (fun k => k ≠ w.heap.size) v1 (xs ++ [(d : Int) + 128]))) (hB : Below w.heap.size w W) (hg : Hid (W.grownBy w2 v.ownBlock)) (hb : Hid (Below w.heap.size w w2)) : PutJ w n q (xs ++ [(d : Int) + 128]) v1 w2 := by
  have hlt := World.block_lt_of_cell? W _ hc.out
  have hne : some w.heap.size ≠ v.ownBlock := fun e => hr.out.1 _ e.symm rfl
  have hblk := hg.out.block w.heap.size hlt hne
  refine ⟨by omega, by rw [← hx, hp]; simp, ?_, ?_, ho, hb⟩
  · show _ = _
    have := hc.out
    simp only [World.cell?, hblk] at this ⊢; exact this
  · show _ = _
    have := hf.out
    simp only [World.frozen?, hblk] at this ⊢; exact this
set_option maxRecDepth 100000 in
set_option maxHeartbeats 6400000 in
theorem varint_Put.calls (a0 : Int) (r1 : ByteArray) (r2 : Int) (w : World) (h : varint_Put.f a0 = some (r1, r2)) :
    Calls Try.prog 23 #[.int .i64 a0] w fun e w' => e = .returned (.tuple #[.string r1, .int .i64 r2]) ∧ Below w.heap.size w w' := by
  have h' := Option.some.inj h
  clear h
  have hq := Lib.hid (small_calls a0)
  have hmf : ∀ (fn : Fn) (first cap : Array Value) (w : World), (Instr.makeFunc fn first cap).run Try.prog w = .ok (.func fn first cap) w := fun _ _ _ _ => rfl
  by_cases hs : isSmallB a0 = true
  · rw [if_pos hs] at h'; cases h'
    rw [hs] at hq
    simp only [isSmallB, Bool.and_eq_true, decide_eq_true_eq] at hs
    obtain ⟨n, rfl⟩ : ∃ n : Nat, a0 = n := ⟨a0.toNat, by omega⟩
    have hn : n ≤ 2147483647 := by omega
    have hnt : ((n : Int).toNat) = n := by omega
    rw [hnt]
    clear hs hnt
    go_enter Try.func23, Try.ntmps23
    go_wp2
    refine wp_scope_jumps 0 (fun a' w' => ∃ (m : Nat) (xs : List Int) (v u6 u11 u12 u13 u14 u15 u16 u17 u18 u19 : Value), a' = { tmps := #[.int .i64 n, .pointer (some ⟨w.heap.size, 0, none⟩), .string ⟨#[]⟩, .int .i64 0, v, .func (.func 69) #[] #[.pointer (some ⟨w.heap.size, 0, none⟩)], u6, .int .i64 n, .bool true, .bool false, .func (.func 69) #[] #[.pointer (some ⟨w.heap.size, 0, none⟩)], u11, u12, u13, u14, u15, u16, u17, u18, u19, undef, undef, undef, undef, undef], defers := [] } ∧
        PutJ w n m xs v w') (fun _ w' => cellNat w.heap.size w') rfl ?_ ?_
    · go_wp2_with (go_at_call 68; refine (hq.out _).mono ?_; rintro e w1 ⟨rfl, rfl⟩)
      go_step3
      obtain ⟨v, hv⟩ : ∃ v : Value, v = .slice none 0 0 := ⟨_, rfl⟩
      obtain ⟨xs, hxs⟩ : ∃ xs : List Int, xs = [] := ⟨_, rfl⟩
      have hJ : PutJ w n n xs v (w.alloc (.cells #[.int .i64 n] 3)) := by
        subst hv hxs
        exact ⟨hn, rfl, by show _ = _; rw [World.cell?_alloc_new]; rfl, by show _ = _; rw [World.frozen?_alloc_new], Kd.R_nil _ _ _ _ _, (Below.refl _ _).alloc (Nat.le_refl _) _⟩
      obtain ⟨W0, hW0⟩ : ∃ W0 : World, W0 = w.alloc (.cells #[.int .i64 n] 3) := ⟨_, rfl⟩
      rw [← hW0] at hJ ⊢
      rw [← hv]
      clear hv hxs hW0
      obtain ⟨q, hq'⟩ : ∃ q, q = n / 128 := ⟨_, rfl⟩
      obtain ⟨d, hd'⟩ : ∃ d, d = n % 128 := ⟨_, rfl⟩
      have hqd : n = 128 * q + d := by omega
      have hd : d < 128 := by omega
      clear hq' hd'
      have HNX := Lib.hid (PutJ.next hJ (.int .i64 q))
      have hc := hJ.2.2.1.out
      have hf := hJ.2.2.2.1.out
      have hq69 := next_put n q d hJ.1 hqd hd w.heap.size _ hc hf
      clear hc hf
      have hlen : xs.length + 1 ≤ 5 := by
        have h1 := putN_len n hn
        have h2 : (putN n).length ≥ 1 := by rw [putN]; split <;> simp
        have h3 := congrArg List.length hJ.2.1
        rw [List.length_append] at h3
        omega
      have HM := Lib.hid hJ.1
      have HCW := Lib.hid hJ.2.2.1.out
      have HX := Lib.hid hJ.2.1
      have HQD := Lib.hid hqd
      clear hJ hqd
      go_upto_region 6 with (go_at_call 69; refine hq69.mono ?_; rintro e w1 ⟨rfl, rfl⟩)
      have HC := Lib.hid HNX.out.1
      have HR := Lib.hid HNX.out.2.2.1
      have HB := Lib.hid HNX.out.2.2.2
      have HF := Lib.hid HNX.out.2.1
      obtain ⟨W, hW⟩ : ∃ W : World, W = W0.setCell ⟨w.heap.size, 0, none⟩ (.int .i64 q) := ⟨_, rfl⟩
      rw [← hW] at HC HR HB HF ⊢
      clear hW HNX hq69
      have hc := HC.out
      have hsz : w.heap.size ≤ W.heap.size := HB.out.size
      have hlt' := World.block_lt_of_cell? W _ HC.out
      by_cases hbig : 0 < q
      · have hbb : decide (0 < (q : Int)) = true := by simp only [decide_eq_true_eq]; omega
        have hor : bits .or .u8 (d : Int) 128 = (d : Int) + 128 := or128 _ (by omega) (by omega)
        have HP := Lib.hid (putN_big n q d HQD.out hd hbig)
        go_wp2_with (first
          | ((with_reducible refine gate_builtin (b := .append) (xs := #[.tmp 15, .tmp 18]) rfl ?_); at_builtin; refine Kd.R_append (P := Try.prog) (Kd.int .u8) (w0 := w) w.heap.size rfl (.tmp 15) (.tmp 18) 77 5 (.int .u8 0) 1 rfl Try.underlying77 info5u rfl (by decide) (by omega) v xs ((d : Int) + 128) [.int .u8 ((d : Int) + 128)] (fun k => k ≠ w.heap.size) (fun _ => False) rfl rfl ?aP (fun _ hk => hk.elim) ?aF HR.out HB.out hsz ?aL ?_; (case aP => exact rfl); (case aF => intro k hk; simp only at hlt'; omega); (case aL => omega); intro v1 w2 ho hb hg hat; have HO := Lib.hid ho; have HG := Lib.hid hg; clear ho hg hat))
        go_step3
        exact ⟨rfl, q, xs ++ [(d : Int) + 128], v1, _, _, _, _, _, _, _, _, _, _, rfl, putJ_step HM.out HX.out HQD.out HP.out HC HF HR HO HB.out HG (Lib.hid hb)⟩
      · have hz : q = 0 := by omega
        have hbb : decide (0 < (q : Int)) = false := by simp only [decide_eq_false_iff_not]; omega
        have HP := Lib.hid (putN_small n d (by have := HQD.out; omega) hd)
        have hbn : decide (0 < q) = false := by simp only [decide_eq_false_iff_not]; omega
        clear hz
        go_wp2_with (first
          | ((with_reducible refine gate_builtin (b := .append) (xs := #[.tmp 20, .tmp 22]) rfl ?_); at_builtin; refine Kd.R_append (P := Try.prog) (Kd.int .u8) (w0 := w) w.heap.size rfl (.tmp 20) (.tmp 22) 77 5 (.int .u8 0) 1 rfl Try.underlying77 info5u rfl (by decide) (by omega) v xs (d : Int) [.int .u8 (d : Int)] (fun k => k ≠ w.heap.size) (fun _ => False) rfl rfl ?aP (fun _ hk => hk.elim) ?aF HR.out HB.out hsz ?aL ?_; (case aP => exact rfl); (case aF => intro k hk; simp only at hlt'; omega); (case aL => omega); intro v1 w2 ho hb hg hat; clear hg hat; obtain ⟨A1, c1, e1, hc1, hCC⟩ := Kd.R_reads ho; subst e1; have hconv := Kd.C_string (P := Try.prog) (src := 77) (dst := 9) (e := 5) (c := c1) Try.underlying77 Try.underlying5 Try.underlying9 hCC; simp only [List.length_append, List.length_cons, List.length_nil, Nat.zero_add] at hconv; clear hCC ho hc1))
        (try simp only [Exit.jump])
        go_ret2
        exact ⟨by rw [← HX.out, HP.out]; rfl, hb⟩
    · rintro a' w' ⟨m, xs, v, u6, u11, u12, u13, u14, u15, u16, u17, u18, u19, rfl, hJ⟩
      obtain ⟨q, hq'⟩ : ∃ q, q = m / 128 := ⟨_, rfl⟩
      obtain ⟨d, hd'⟩ : ∃ d, d = m % 128 := ⟨_, rfl⟩
      have hqd : m = 128 * q + d := by omega
      have hd : d < 128 := by omega
      clear hq' hd'
      have HNX := Lib.hid (PutJ.next hJ (.int .i64 q))
      have hc := hJ.2.2.1.out
      have hf := hJ.2.2.2.1.out
      have hq69 := next_put m q d hJ.1 hqd hd w.heap.size _ hc hf
      clear hc hf
      have hlen : xs.length + 1 ≤ 5 := by
        have h1 := putN_len n hn
        have h2 : (putN m).length ≥ 1 := by rw [putN]; split <;> simp
        have h3 := congrArg List.length hJ.2.1
        rw [List.length_append] at h3
        omega
      have HM := Lib.hid hJ.1
      have HCW := Lib.hid hJ.2.2.1.out
      have HX := Lib.hid hJ.2.1
      have HQD := Lib.hid hqd
      clear hJ hqd
      go_upto_region 6 with (go_at_call 69; refine hq69.mono ?_; rintro e w1 ⟨rfl, rfl⟩)
      have HC := Lib.hid HNX.out.1
      have HR := Lib.hid HNX.out.2.2.1
      have HB := Lib.hid HNX.out.2.2.2
      have HF := Lib.hid HNX.out.2.1
      obtain ⟨W, hW⟩ : ∃ W : World, W = w'.setCell ⟨w.heap.size, 0, none⟩ (.int .i64 q) := ⟨_, rfl⟩
      rw [← hW] at HC HR HB HF ⊢
      clear hW HNX hq69
      have hc := HC.out
      have hsz : w.heap.size ≤ W.heap.size := HB.out.size
      have hlt' := World.block_lt_of_cell? W _ HC.out
      by_cases hbig : 0 < q
      · have hbb : decide (0 < (q : Int)) = true := by simp only [decide_eq_true_eq]; omega
        have hor : bits .or .u8 (d : Int) 128 = (d : Int) + 128 := or128 _ (by omega) (by omega)
        have HP := Lib.hid (putN_big m q d HQD.out hd hbig)
        go_wp2_with (first
          | ((with_reducible refine gate_builtin (b := .append) (xs := #[.tmp 15, .tmp 18]) rfl ?_); at_builtin; refine Kd.R_append (P := Try.prog) (Kd.int .u8) (w0 := w) w.heap.size rfl (.tmp 15) (.tmp 18) 77 5 (.int .u8 0) 1 rfl Try.underlying77 info5u rfl (by decide) (by omega) v xs ((d : Int) + 128) [.int .u8 ((d : Int) + 128)] (fun k => k ≠ w.heap.size) (fun _ => False) rfl rfl ?aP (fun _ hk => hk.elim) ?aF HR.out HB.out hsz ?aL ?_; (case aP => exact rfl); (case aF => intro k hk; simp only at hlt'; omega); (case aL => omega); intro v1 w2 ho hb hg hat; have HO := Lib.hid ho; have HG := Lib.hid hg; clear ho hg hat))
        go_step3
        exact ⟨rfl, ⟨q, xs ++ [(d : Int) + 128], v1, _, _, _, _, _, _, _, _, _, _, rfl, putJ_step HM.out HX.out HQD.out HP.out HC HF HR HO HB.out HG (Lib.hid hb)⟩, by have hcm := (putJ_step HM.out HX.out HQD.out HP.out HC HF HR HO HB.out HG (Lib.hid hb)).2.2.1.out; have hcw := HCW.out; simp only [cellNat, hcm, hcw]; simp; have := HQD.out; omega⟩
      · have hz : q = 0 := by omega
        have hbb : decide (0 < (q : Int)) = false := by simp only [decide_eq_false_iff_not]; omega
        have HP := Lib.hid (putN_small m d (by have := HQD.out; omega) hd)
        have hbn : decide (0 < q) = false := by simp only [decide_eq_false_iff_not]; omega
        clear hz
        go_wp2_with (first
          | ((with_reducible refine gate_builtin (b := .append) (xs := #[.tmp 20, .tmp 22]) rfl ?_); at_builtin; refine Kd.R_append (P := Try.prog) (Kd.int .u8) (w0 := w) w.heap.size rfl (.tmp 20) (.tmp 22) 77 5 (.int .u8 0) 1 rfl Try.underlying77 info5u rfl (by decide) (by omega) v xs (d : Int) [.int .u8 (d : Int)] (fun k => k ≠ w.heap.size) (fun _ => False) rfl rfl ?aP (fun _ hk => hk.elim) ?aF HR.out HB.out hsz ?aL ?_; (case aP => exact rfl); (case aF => intro k hk; simp only at hlt'; omega); (case aL => omega); intro v1 w2 ho hb hg hat; clear hg hat; obtain ⟨A1, c1, e1, hc1, hCC⟩ := Kd.R_reads ho; subst e1; have hconv := Kd.C_string (P := Try.prog) (src := 77) (dst := 9) (e := 5) (c := c1) Try.underlying77 Try.underlying5 Try.underlying9 hCC; simp only [List.length_append, List.length_cons, List.length_nil, Nat.zero_add] at hconv; clear hCC ho hc1))
        (try simp only [Exit.jump])
        go_ret2
        exact ⟨by rw [← HX.out, HP.out]; rfl, hb⟩
  · rw [if_neg hs] at h'; cases h'
    have hs' : isSmallB a0 = false := by simpa using hs
    rw [hs'] at hq
    clear hs
    go_enter Try.func23, Try.ntmps23
    go_wp2
    refine wp_scope_jumps 0 (fun _ _ => False) (fun _ _ => 0) rfl ?_ (fun _ _ h => h.elim)
    go_wp2_with (go_at_call 68; refine (hq.out _).mono ?_; rintro e w1 ⟨rfl, rfl⟩)
    simp only [Exit.jump]
    go_ret2
    exact ⟨rfl, (Below.refl _ _).alloc (Nat.le_refl _) _⟩
end Go.Proofs.Ytipmoncamnafbaa.X
