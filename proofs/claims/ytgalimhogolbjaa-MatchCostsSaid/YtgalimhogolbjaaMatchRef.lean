/- The reference's count of bits is the program's. -/
import Derived.Test.YtgalimhogolbjaaMatchCost
namespace Go.Proofs.Ytgalimhogolbjaa.Fnd
open Go Go.RowKit Go.Proofs.Ytgalimhogolbjaa.PMatchAll Go.Proofs.YtgalimhogolbjaaW.PrintWords Go.Proofs.YtgalimhogolbjaaW.PrintLast Go.Proofs.YtgalimhogolbjaaW.PrintMore

theorem mo_val (U : Nat) (_ : 1 ≤ U) : ∀ (e f n : Nat), e ≤ f → U * 2 ^ e ≤ n → n < 2 * U * 2 ^ e → mo (2 * U) f n = e := by
  intro e
  induction e with
  | zero =>
    intro f n _ _ h2
    cases f with
    | zero => rfl
    | succ f => rw [mo, if_neg (by omega)]
  | succ e ih =>
    intro f n hf h1 h2
    obtain ⟨f, rfl⟩ : ∃ g, f = g + 1 := ⟨f - 1, by omega⟩
    have h3 : U * 2 ^ (e + 1) = U * 2 ^ e * 2 := by rw [Nat.pow_succ, Nat.mul_assoc]
    have h4 : 2 * U * 2 ^ (e + 1) = 2 * U * 2 ^ e * 2 := by rw [Nat.pow_succ, ← Nat.mul_assoc]
    have h5 : 2 * U * 2 ^ e = 2 * (U * 2 ^ e) := Nat.mul_assoc _ _ _
    have h6 : U ≤ U * 2 ^ e := Nat.le_mul_of_pos_right _ (Nat.pow_pos (by decide))
    rw [mo, if_pos (by omega), ih f (n / 2) (by omega) (by omega) (by omega)]
    omega
theorem mo_low (T f n : Nat) (h : n < T) : mo T f n = 0 := by
  cases f with
  | zero => rfl
  | succ f => rw [mo, if_neg (by omega)]
/-- Between which two bases a number lies. -/
theorem between (b : Nat → Nat) (n : Nat) (h0 : b 0 ≤ n) : ∀ m, n < b m → ∃ s, s < m ∧ b s ≤ n ∧ n < b (s + 1) := by
  intro m
  induction m with
  | zero => intro h; omega
  | succ m ih =>
    intro h
    by_cases hm : n < b m
    · obtain ⟨s, h1, h2, h3⟩ := ih hm
      exact ⟨s, by omega, h2, h3⟩
    · exact ⟨m, by omega, by omega, h⟩

/-! ## distances -/
def ed (s : Nat) : Nat := if s < 4 then 0 else s / 2 - 1
def bd (s : Nat) : Nat := if s < 4 then 1 + s else 1 + (2 + s % 2) * 2 ^ (s / 2 - 1)
theorem dist_tab : ∀ s : Nat, s < 30 → mortiseref07_Distance.f (s : Int) = some (((bd s : Nat) : Int), ((ed s : Nat) : Int)) := by decide +kernel
theorem bd_le : ∀ s : Nat, s < 31 → ∀ i : Nat, i < 31 → i ≤ s → bd i ≤ bd s := by decide +kernel
theorem bd_mo : ∀ s : Nat, s < 30 → 4 ≤ s → 2 * 2 ^ ed s + 1 ≤ bd s ∧ bd (s + 1) ≤ 4 * 2 ^ ed s + 1 ∧ ed s ≤ 20 := by decide +kernel
theorem dist_scan (n s : Nat) (hs : s < 30) (h1 : bd s ≤ n) (h2 : n < bd (s + 1)) : ∀ (d i : Nat) (cur : Int), i + d = 30 → i ≤ s ∨ cur = (s : Int) → Ev (fun k => mortiseref08_DistSymbol.l0 k (n : Int) cur (i : Int)) (s : Int) := by
  intro d
  induction d with
  | zero =>
    intro i cur hi hc
    have : cur = (s : Int) := hc.resolve_left (by omega)
    subst this
    refine Ev.step (fun k => ?_) (Ev.now _)
    simp only [mortiseref08_DistSymbol.l0]
    rw [if_neg (by omega)]
  | succ d ih =>
    intro i cur hi hc
    have hn : wrap64 ((i : Int) + 1) = ((i + 1 : Nat) : Int) := by rw [w64 (by omega) (by omega)]; rfl
    by_cases hb : bd i ≤ n
    · have hle : i ≤ s := by
        apply Nat.le_of_not_lt
        intro hlt
        have := bd_le i (by omega) (s + 1) (by omega) hlt
        omega
      refine Ev.step (fun k => ?_) (ih (i + 1) (i : Int) (by omega) (by omega))
      simp only [mortiseref08_DistSymbol.l0]
      rw [if_pos (by omega), dist_tab i (by omega)]
      simp only [Option.bind_some]
      rw [if_pos (by omega), hn]
    · have hgt : s < i := by
        apply Nat.lt_of_not_le
        intro hlt
        have := bd_le s (by omega) i (by omega) hlt
        omega
      refine Ev.step (fun k => ?_) (ih (i + 1) cur (by omega) (by omega))
      simp only [mortiseref08_DistSymbol.l0]
      rw [if_pos (by omega), dist_tab i (by omega)]
      simp only [Option.bind_some]
      rw [if_neg (by omega), hn]
theorem dist_ev (n : Nat) (h1 : 1 ≤ n) (h2 : n ≤ 32768) : ∃ s : Nat, s < 30 ∧ Ev (fun k => mortiseref08_DistSymbol.f k (n : Int)) (s : Int) ∧ mo 4 20 (n - 1) = ed s := by
  have h3 : bd 30 = 32769 := by decide
  have h0 : bd 0 = 1 := by decide
  obtain ⟨s, hs, ha, hb⟩ := between bd n (by omega) 30 (by omega)
  refine ⟨s, hs, dist_scan n s hs ha hb 30 0 0 (by omega) (.inl (Nat.zero_le _)), ?_⟩
  by_cases h4 : 4 ≤ s
  · obtain ⟨q1, q2, q3⟩ := bd_mo s hs h4
    exact mo_val 2 (by decide) (ed s) 20 (n - 1) q3 (by omega) (by omega)
  · have e1 : bd (s + 1) ≤ bd 4 := bd_le 4 (by omega) (s + 1) (by omega) (by omega)
    have e2 : bd 4 = 5 := by decide
    rw [mo_low 4 20 (n - 1) (by omega)]
    unfold ed; rw [if_pos (by omega)]

/-! ## lengths -/
def el (c : Nat) : Nat := if c < 8 then 0 else c / 4 - 1
def bl (c : Nat) : Nat := if c < 8 then 3 + c else 3 + (4 + c % 4) * 2 ^ (c / 4 - 1)
theorem len_tab : ∀ c : Nat, c < 28 → mortiseref07_Length.f (257 + (c : Int)) = some (((bl c : Nat) : Int), ((el c : Nat) : Int)) := by decide +kernel
theorem len_last : mortiseref07_Length.f 285 = some (258, 0) := by decide +kernel
theorem bl_le : ∀ s : Nat, s < 29 → ∀ i : Nat, i < 29 → i ≤ s → bl i ≤ bl s := by decide +kernel
theorem bl_mo : ∀ s : Nat, s < 28 → 8 ≤ s → 4 * 2 ^ el s + 3 ≤ bl s ∧ bl (s + 1) ≤ 8 * 2 ^ el s + 3 ∧ el s ≤ 20 := by decide +kernel
theorem len_scan (n s : Nat) (hs : s < 28) (h1 : bl s ≤ n) (h2 : n < bl (s + 1)) : ∀ (d i : Nat) (cur : Int), i + d = 28 → i ≤ s ∨ cur = 257 + (s : Int) → Ev (fun k => mortiseref08_LengthSymbol.l0 k (n : Int) cur (257 + (i : Int))) (257 + (s : Int)) := by
  intro d
  induction d with
  | zero =>
    intro i cur hi hc
    have : cur = 257 + (s : Int) := hc.resolve_left (by omega)
    subst this
    refine Ev.step (fun k => ?_) (Ev.now _)
    simp only [mortiseref08_LengthSymbol.l0]
    rw [if_neg (by omega)]
  | succ d ih =>
    intro i cur hi hc
    have hn : wrap64 (257 + (i : Int) + 1) = 257 + ((i + 1 : Nat) : Int) := by rw [w64 (by omega) (by omega)]; omega
    by_cases hb : bl i ≤ n
    · have hle : i ≤ s := by
        apply Nat.le_of_not_lt
        intro hlt
        have := bl_le i (by omega) (s + 1) (by omega) hlt
        omega
      refine Ev.step (fun k => ?_) (ih (i + 1) (257 + (i : Int)) (by omega) (by omega))
      simp only [mortiseref08_LengthSymbol.l0]
      rw [if_pos (by omega), len_tab i (by omega)]
      simp only [Option.bind_some]
      rw [if_pos (by omega), hn]
    · have hgt : s < i := by
        apply Nat.lt_of_not_le
        intro hlt
        have := bl_le s (by omega) i (by omega) hlt
        omega
      refine Ev.step (fun k => ?_) (ih (i + 1) cur (by omega) (by omega))
      simp only [mortiseref08_LengthSymbol.l0]
      rw [if_pos (by omega), len_tab i (by omega)]
      simp only [Option.bind_some]
      rw [if_neg (by omega), hn]

/-! ## the fixed code's lengths -/
def FL : List Int := List.replicate 144 8 ++ List.replicate 112 9 ++ List.replicate 24 7 ++ List.replicate 8 8
def FD : List Int := List.replicate 32 5
theorem fixed_now : mortiseref07_Fixed.f 700 = some (FL, FD) := by decide +kernel
theorem fixed_ev : Ev (fun k => mortiseref07_Fixed.f k) (FL, FD) := Ev.of (fun k => mortiseref07_Fixed.mono k) fixed_now
theorem FL_lit : ∀ j : Nat, j < 256 → FL.getD j 0 = if j < 144 then 8 else 9 := by decide +kernel
theorem FL_len : ∀ c : Nat, c < 29 → FL.getD (257 + c) 0 = if c < 23 then 7 else 8 := by decide +kernel
theorem FL_length : FL.length = 288 := by decide +kernel
theorem FD_at : ∀ j : Nat, j < 30 → FD.getD j 0 = 5 := by decide +kernel
theorem FD_length : FD.length = 32 := by decide +kernel
theorem rd_lit (x : Int) (h0 : 0 ≤ x) (h1 : x ≤ 255) : rd FL x = if x < 144 then 8 else 9 := by
  unfold rd
  rw [FL_lit x.toNat (by omega)]
  by_cases h : x < 144
  · rw [if_pos h, if_pos (by omega)]
  · rw [if_neg h, if_neg (by omega)]
theorem rd_len (c : Nat) (h : c < 29) : rd FL (257 + (c : Int)) = if c < 23 then 7 else 8 := by
  unfold rd
  rw [show (257 + (c : Int)).toNat = 257 + c from by omega]
  exact FL_len c h
theorem rd_dist (s : Nat) (h : s < 30) : rd FD (s : Int) = 5 := by
  unfold rd
  rw [Int.toNat_natCast]
  exact FD_at s h
theorem len_ev (n : Nat) (h1 : 3 ≤ n) (h2 : n ≤ 258) : ∃ c b e : Nat, c < 29 ∧ Ev (fun k => mortiseref08_LengthSymbol.f k (n : Int)) (257 + (c : Int)) ∧ mortiseref07_Length.f (257 + (c : Int)) = some ((b : Int), (e : Int)) ∧ rd FL (257 + (c : Int)) + (e : Int) = lb (n : Int) ∧ e ≤ 20 := by
  by_cases h : n = 258
  · subst h
    refine ⟨28, 258, 0, by omega, ?_, len_last, by rw [rd_len 28 (by omega)]; rfl, by omega⟩
    unfold mortiseref08_LengthSymbol.f
    exact Ev.congr (fun _ => if_pos rfl) (Ev.now _)
  · have h3 : bl 28 = 259 := by decide
    have h0 : bl 0 = 3 := by decide
    obtain ⟨s, hs, ha, hb⟩ := between bl n (by omega) 28 (by omega)
    have hmo : mo 8 20 (n - 3) = el s ∧ el s ≤ 20 := by
      by_cases h4 : 8 ≤ s
      · obtain ⟨q1, q2, q3⟩ := bl_mo s hs h4
        exact ⟨mo_val 4 (by decide) (el s) 20 (n - 3) q3 (by omega) (by omega), q3⟩
      · have e1 : bl (s + 1) ≤ bl 8 := bl_le 8 (by omega) (s + 1) (by omega) (by omega)
        have e2 : bl 8 = 11 := by decide
        have e3 : el s = 0 := by unfold el; rw [if_pos (by omega)]
        rw [mo_low 8 20 (n - 3) (by omega), e3]
        exact ⟨rfl, by omega⟩
    refine ⟨s, bl s, el s, by omega, ?_, len_tab s hs, ?_, hmo.2⟩
    · unfold mortiseref08_LengthSymbol.f
      refine Ev.congr (fun _ => if_neg (by omega)) ?_
      exact len_scan n s hs ha hb 28 0 257 (by omega) (.inl (Nat.zero_le _))
    · rw [rd_len s (by omega)]
      have e4 : ((n : Int) - 3).toNat = n - 3 := by omega
      have e5 : bl 23 = 115 := by decide
      have e6 : lb (n : Int) = if (n : Int) ≥ 115 then 8 + el s else 7 + el s := by
        unfold lb
        rw [if_neg (by omega), e4, hmo.1]
      rw [e6]
      by_cases h5 : s < 23
      · have := bl_le 23 (by omega) (s + 1) (by omega) (by omega)
        rw [if_pos h5, if_neg (by omega)]; omega
      · have := bl_le s (by omega) 23 (by omega) (by omega)
        rw [if_neg h5, if_pos (by omega)]; omega

theorem refCost_l0 (l : List Tk) (hl : l.length ≤ 1000000) (hb : ∀ t ∈ l, 0 ≤ t.f0 ∧ t.f0 ≤ 255) (r : List Tk) : ∀ (i : Nat) (a : Int), AtT l i r → 0 ≤ a → a ≤ 100 * (i : Int) + 100 →
    Ev (fun k => mortiseref08_Cost.l0 k l FL FD a (i : Int)) (cst r a) := by
  induction r with
  | nil =>
    intro i a ha h0 h1
    have := ha.nil
    refine Ev.step (fun k => ?_) (Ev.now _)
    simp only [mortiseref08_Cost.l0]
    rw [if_neg (by omega)]
    rfl
  | cons t r ih =>
    intro i a ha h0 h1
    obtain ⟨hi, ht, hn⟩ := ha.cons
    have hmem : t ∈ l := List.mem_of_mem_drop (i := i) (by rw [ha.1]; exact List.mem_cons_self ..)
    have hbt := hb t hmem
    have hnext : wrap64 ((i : Int) + 1) = ((i + 1 : Nat) : Int) := by rw [w64 (by omega) (by omega)]; rfl
    have hf := may_ev t
    have hFL := FL_length
    have hFD := FD_length
    by_cases c1 : fineB t = true
    · have hcs := fineB_cases c1
      have hle := tc_le t
      have IH := ih (i + 1) (a + tc t) hn (by omega) (by omega)
      rw [cst, if_pos c1]
      by_cases c4 : t.f2 = 0
      · have etc : (tc t : Int) = rd FL t.f0 := by
          unfold tc; rw [if_pos c4, rd_lit t.f0 hbt.1 hbt.2]
          split <;> rfl
        have hrd : rd FL t.f0 = 8 ∨ rd FL t.f0 = 9 := by rw [rd_lit t.f0 hbt.1 hbt.2]; split <;> simp
        refine Ev.step (fun k => ?_) IH
        simp only [mortiseref08_Cost.l0]
        rw [if_pos (by omega), if_pos (by omega), ht, hf]
        simp only [Option.bind_some]
        rw [if_pos c1, if_pos c4, if_pos hbt.1, if_pos (by omega), hnext, w64 (by omega) (by omega), etc]
      · have hc4 : 0 < t.f2 ∧ t.f2 ≤ 32768 ∧ 3 ≤ t.f1 ∧ t.f1 ≤ 258 := by omega
        obtain ⟨c, b, e, hc, q1, q2, q3, q4⟩ := len_ev t.f1.toNat (by omega) (by omega)
        obtain ⟨s, hs, r1, r2⟩ := dist_ev t.f2.toNat (by omega) (by omega)
        rw [show ((t.f1.toNat : Nat) : Int) = t.f1 from by omega] at q1 q3
        rw [show ((t.f2.toNat : Nat) : Int) = t.f2 from by omega] at r1
        have r3 := dist_tab s hs
        have r4 := rd_dist s hs
        have r5 : rd FL (257 + (c : Int)) = 7 ∨ rd FL (257 + (c : Int)) = 8 := by rw [rd_len c hc]; split <;> simp
        have hlb := lb_le t.f1
        have r6 : ed s ≤ 20 := by rw [← r2]; exact mo_le 4 20 _
        have etc : (tc t : Int) = lb t.f1 + 5 + ed s := by
          unfold tc; rw [if_neg c4, show (t.f2 - 1).toNat = t.f2.toNat - 1 from by omega, r2]; omega
        refine Ev.step (f := fun k => (mortiseref08_LengthSymbol.f k t.f1).bind fun t181 => ((mortiseref08_DistSymbol.f k t.f2).bind fun t182 => ((mortiseref07_Length.f t181).bind fun bt183 => ((mortiseref07_Distance.f t182).bind fun bt185 => (if 0 ≤ t181 then (if t181 < (FL.length : Int) then (if 0 ≤ t182 then (if t182 < (FD.length : Int) then (mortiseref08_Cost.l0 k l FL FD (wrap64 ((wrap64 ((wrap64 ((wrap64 (a + (rd FL t181))) + bt183.2)) + (rd FD t182))) + bt185.2)) (wrap64 ((i : Int) + 1))) else (none)) else (none)) else (none)) else (none)))))) (fun k => ?_) ?_
        · simp only [mortiseref08_Cost.l0]
          rw [if_pos (by omega), if_pos (by omega), ht, hf]
          simp only [Option.bind_some]
          rw [if_pos c1, if_neg c4]
        · refine Ev.bind q1 (Ev.bind r1 ?_)
          refine Ev.congr (fun k => ?_) IH
          rw [q2, r3]
          simp only [Option.bind_some]
          rw [if_pos (by omega), if_pos (by omega), if_pos (by omega), if_pos (by omega), hnext, r4,
            w64 (n := a + rd FL (257 + (c : Int))) (by omega) (by omega), w64 (n := a + rd FL (257 + (c : Int)) + (e : Int)) (by omega) (by omega), w64 (n := a + rd FL (257 + (c : Int)) + (e : Int) + 5) (by omega) (by omega), w64 (by omega) (by omega)]
          congr 1
          omega
    · refine Ev.step (f := fun _ => some ((0 : Int), (1 : Int))) (fun k => ?_) ?_
      · simp only [mortiseref08_Cost.l0]
        rw [if_pos (by omega), if_pos (by omega), ht, hf]
        simp only [Option.bind_some]
        rw [if_neg c1]
      · rw [cst, if_neg c1]; exact Ev.now _
theorem refCost_ev (l : List Tk) (hl : l.length ≤ 1000000) (hb : ∀ t ∈ l, 0 ≤ t.f0 ∧ t.f0 ≤ 255) : Ev (fun k => mortiseref08_Cost.f k l) (cst l 7) := by
  unfold mortiseref08_Cost.f
  exact Ev.bind fixed_ev (refCost_l0 l hl hb l 0 7 ⟨rfl, Nat.zero_le _⟩ (by omega) (by omega))
end Go.Proofs.Ytgalimhogolbjaa.Fnd
