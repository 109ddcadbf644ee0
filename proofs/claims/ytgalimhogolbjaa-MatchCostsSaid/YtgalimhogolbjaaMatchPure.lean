/- What the printed functions of the matches come to, in plain Lean: expanding, by the program and by the reference. -/
import Derived.Test.YtgalimhogolbjaaPMatchAllx6
import Derived.Test.YtgalimhogolbjaaPMatchAllx5
namespace Go.Proofs.Ytgalimhogolbjaa.Fnd
open Go Go.RowKit Go.Proofs.Ytgalimhogolbjaa.PMatchAll Go.Proofs.YtgalimhogolbjaaW.PrintWords Go.Proofs.YtgalimhogolbjaaW.PrintLast Go.Proofs.YtgalimhogolbjaaW.PrintMore

abbrev Tk := S37
theorem w64 {n : Int} (h0 : -9223372036854775808 ≤ n) (h1 : n ≤ 9223372036854775807) : wrap64 n = n := by
  unfold wrap64; omega
/-- May a token be? -/
def fineB (t : Tk) : Bool := if t.f2 = 0 then t.f1 == 0 else decide (0 < t.f2 ∧ t.f2 ≤ 32768 ∧ 3 ≤ t.f1 ∧ t.f1 ≤ 258 ∧ t.f0 = 0)
theorem fine_ev (t : Tk) : match_fine.f t.f0 t.f1 t.f2 = some (fineB t) := by
  unfold match_fine.f fineB
  repeat' split
  all_goals first
    | rfl
    | (rw [Option.some.injEq, Bool.eq_iff_iff]
       simp only [beq_iff_eq, decide_eq_true_iff, Bool.false_eq_true]
       exact ⟨fun h => by first | cases h | omega, fun h => by omega⟩)
theorem may_ev (t : Tk) : mortiseref08_May.f t.f0 t.f1 t.f2 = some (fineB t) := by
  unfold mortiseref08_May.f fineB
  repeat' split
  all_goals first
    | rfl
    | (rw [Option.some.injEq, Bool.eq_iff_iff]
       simp only [beq_iff_eq, decide_eq_true_iff, Bool.false_eq_true]
       exact ⟨fun h => by first | cases h | omega, fun h => by omega⟩)
/-- n bytes more, as they stand d back. -/
def copy (d : Nat) : Nat → List Int → List Int
  | 0, out => out
  | n + 1, out => copy d n (out ++ [out.getD (out.length - d) 0])
theorem copy_length (d n : Nat) : ∀ out, (copy d n out).length = out.length + n := by
  induction n with
  | zero => intro out; rfl
  | succ n ih => intro out; rw [copy, ih]; simp; omega
def app (t : Tk) (out : List Int) : List Int := if t.f2 = 0 then out ++ [t.f0] else copy t.f2.toNat t.f1.toNat out
def expd (lim : Int) : List Tk → List Int → ByteArray × Int
  | [], out => (strOfNums out, 0)
  | t :: r, out => if fineB t = true then (if t.f2 > (out.length : Int) then ((⟨#[]⟩ : ByteArray), 3) else if (out.length : Int) + mx 1 t.f1 > lim then ((⟨#[]⟩ : ByteArray), 11) else expd lim r (app t out)) else ((⟨#[]⟩ : ByteArray), 1)
theorem fineB_cases {t : Tk} (h : fineB t = true) : (t.f2 = 0 ∧ t.f1 = 0) ∨ (0 < t.f2 ∧ t.f2 ≤ 32768 ∧ 3 ≤ t.f1 ∧ t.f1 ≤ 258 ∧ t.f0 = 0) := by
  unfold fineB at h
  split at h
  · rename_i h2; exact .inl ⟨h2, by simpa using h⟩
  · exact .inr (by simpa using h)
theorem mx_one (n : Int) : mx 1 n = if 1 < n then n else 1 := rfl
theorem app_length {t : Tk} (h : fineB t = true) (out : List Int) : ((app t out).length : Int) = out.length + mx 1 t.f1 := by
  rw [mx_one]
  unfold app
  rcases fineB_cases h with ⟨h2, h1⟩ | ⟨h2, _, h1, _, _⟩
  · rw [if_pos h2, if_neg (by omega)]; simp
  · rw [if_neg (by omega), if_pos (by omega), copy_length]; omega
/-- From place i on the tokens are r. -/
def AtT (l : List Tk) (i : Nat) (r : List Tk) : Prop := l.drop i = r ∧ i ≤ l.length
theorem AtT.nil {l : List Tk} {i : Nat} (h : AtT l i []) : i = l.length := Nat.le_antisymm h.2 (List.drop_eq_nil_iff.1 h.1)
theorem AtT.cons {l : List Tk} {i : Nat} {t : Tk} {r : List Tk} (h : AtT l i (t :: r)) : i < l.length ∧ rd_T37 l (i : Int) = t ∧ AtT l (i + 1) r := by
  have hlt : i < l.length := by
    apply Nat.lt_of_not_le
    intro hle
    have := h.1
    rw [List.drop_eq_nil_of_le hle] at this
    cases this
  have hd := List.drop_eq_getElem_cons hlt
  rw [h.1] at hd
  injection hd with h1 h2
  refine ⟨hlt, ?_, ⟨h2.symm, hlt⟩⟩
  unfold rd_T37
  simp only [Int.toNat_natCast, List.getD_eq_getElem?_getD, List.getElem?_eq_getElem hlt, Option.getD_some]
  exact h1.symm
theorem copy_l1 (lim : Int) (l : List Tk) (L i : Int) (d : Nat) (hd : 1 ≤ d) (a0 a1 : Int) (r : ByteArray × Int) (n : Nat) : ∀ (j : Nat) (out : List Int) (N : Nat), j + n = N → N ≤ 300 → d ≤ out.length → out.length + n ≤ 2000000000 →
    Ev (fun k => match_Expand.l0 k lim (copy d n out) l L (wrap64 (i + 1))) r → Ev (fun k => match_Expand.l1 k lim out l L i (N : Int) (j : Int) a0 a1 (d : Int)) r := by
  induction n with
  | zero =>
    intro j out N hj hN hdo ho h
    refine Ev.step (fun k => ?_) h
    simp only [match_Expand.l1]
    rw [if_neg (by omega)]
    rfl
  | succ n ih =>
    intro j out N hj hN hdo ho h
    have e : wrap64 ((out.length : Int) - (d : Int)) = ((out.length - d : Nat) : Int) := by rw [w64 (by omega) (by omega)]; omega
    refine Ev.step (fun k => ?_) (ih (j + 1) (out ++ [out.getD (out.length - d) 0]) N (by omega) hN (by simp; omega) (by simp; omega) h)
    simp only [match_Expand.l1]
    rw [e, if_pos (by omega), if_pos (by omega), if_pos (by omega), if_pos (by omega), w64 (n := (j : Int) + 1) (by omega) (by omega)]
    simp only [rd, Int.toNat_natCast]
    rfl
theorem copy_r1 (lim : Int) (l : List Tk) (i : Int) (d : Nat) (hd : 1 ≤ d) (a0 a1 : Int) (r : ByteArray × Int) (n : Nat) : ∀ (j : Nat) (out : List Int) (N : Nat), j + n = N → N ≤ 300 → d ≤ out.length → out.length + n ≤ 2000000000 →
    Ev (fun k => mortiseref08_Expand.l0 k l lim (copy d n out) (wrap64 (i + 1))) r → Ev (fun k => mortiseref08_Expand.l1 k l lim out i (N : Int) (j : Int) a0 a1 (d : Int)) r := by
  induction n with
  | zero =>
    intro j out N hj hN hdo ho h
    refine Ev.step (fun k => ?_) h
    simp only [mortiseref08_Expand.l1]
    rw [if_neg (by omega)]
    rfl
  | succ n ih =>
    intro j out N hj hN hdo ho h
    have e : wrap64 ((out.length : Int) - (d : Int)) = ((out.length - d : Nat) : Int) := by rw [w64 (by omega) (by omega)]; omega
    refine Ev.step (fun k => ?_) (ih (j + 1) (out ++ [out.getD (out.length - d) 0]) N (by omega) hN (by simp; omega) (by simp; omega) h)
    simp only [mortiseref08_Expand.l1]
    rw [e, if_pos (by omega), if_pos (by omega), if_pos (by omega), if_pos (by omega), w64 (n := (j : Int) + 1) (by omega) (by omega)]
    simp only [rd, Int.toNat_natCast]
    rfl
theorem expand_l0 (lim : Int) (h0 : 0 ≤ lim) (h1 : lim ≤ 1073741824) (l : List Tk) (hl : l.length ≤ 1000000) (r : List Tk) : ∀ (i : Nat) (out : List Int), AtT l i r → (out.length : Int) ≤ lim →
    Ev (fun k => match_Expand.l0 k lim out l (l.length : Int) (i : Int)) (expd lim r out) := by
  induction r with
  | nil =>
    intro i out ha ho
    have := ha.nil
    refine Ev.step (fun k => ?_) (Ev.now _)
    simp only [match_Expand.l0]
    rw [if_neg (by omega)]
    rfl
  | cons t r ih =>
    intro i out ha ho
    obtain ⟨hi, ht, hn⟩ := ha.cons
    have hnext : wrap64 ((i : Int) + 1) = ((i + 1 : Nat) : Int) := by rw [w64 (by omega) (by omega)]; rfl
    have hf := fine_ev t
    by_cases c1 : fineB t = true
    · have hcs := fineB_cases c1
      have hmx : 1 ≤ mx 1 t.f1 ∧ mx 1 t.f1 ≤ 258 := by rw [mx_one]; split <;> omega
      by_cases c2 : t.f2 > (out.length : Int)
      · refine Ev.step (f := fun _ => some ((⟨#[]⟩ : ByteArray), 3)) (fun k => ?_) ?_
        · simp only [match_Expand.l0]
          rw [if_pos (by omega), if_pos (by omega), if_pos (by omega), ht, hf]
          simp only [Option.bind_some]
          rw [if_pos c1, if_pos c2]
        · rw [expd, if_pos c1, if_pos c2]; exact Ev.now _
      · by_cases c3 : (out.length : Int) + mx 1 t.f1 > lim
        · refine Ev.step (f := fun _ => some ((⟨#[]⟩ : ByteArray), 11)) (fun k => ?_) ?_
          · simp only [match_Expand.l0]
            rw [if_pos (by omega), if_pos (by omega), if_pos (by omega), ht, hf]
            simp only [Option.bind_some]
            rw [if_pos c1, if_neg c2, w64 (n := (out.length : Int) + mx 1 t.f1) (by omega) (by omega), if_pos c3]
          · rw [expd, if_pos c1, if_neg c2, if_pos c3]; exact Ev.now _
        · rw [expd, if_pos c1, if_neg c2, if_neg c3]
          have hal := app_length c1 out
          have IH := ih (i + 1) (app t out) hn (by omega)
          by_cases c4 : t.f2 = 0
          · have h1z : t.f1 = 0 := by omega
            have ea : app t out = out ++ [t.f0] := by unfold app; rw [if_pos c4]
            rw [ea] at IH
            have ea2 : app t out = out ++ [t.f0] := ea
            rw [ea2]
            refine Ev.step (f := fun k => match_Expand.j2 k lim (out ++ [t.f0]) l (l.length : Int) (i : Int) t.f0 t.f1 t.f2) (fun k => ?_) ?_
            · simp only [match_Expand.l0]
              rw [if_pos (by omega), if_pos (by omega), if_pos (by omega), ht, hf]
              simp only [Option.bind_some]
              rw [if_pos c1, if_neg c2, w64 (n := (out.length : Int) + mx 1 t.f1) (by omega) (by omega), if_neg c3, if_pos c4, if_pos (by omega)]
            · refine Ev.step (f := fun k => match_Expand.l1 k lim (out ++ [t.f0]) l (l.length : Int) (i : Int) t.f1 0 t.f0 t.f1 t.f2) (fun k => rfl) ?_
              refine Ev.step (f := fun k => match_Expand.l0 k lim (out ++ [t.f0]) l (l.length : Int) ((i + 1 : Nat) : Int)) (fun k => ?_) IH
              simp only [match_Expand.l1]
              rw [if_neg (by omega), hnext]
          · have hc4 : 0 < t.f2 ∧ t.f2 ≤ 32768 ∧ 3 ≤ t.f1 ∧ t.f1 ≤ 258 := by omega
            have ea : app t out = copy t.f2.toNat t.f1.toNat out := by unfold app; rw [if_neg c4]
            rw [ea] at IH hal
            rw [ea]
            have e1 : ((t.f1.toNat : Nat) : Int) = t.f1 := by omega
            have e2 : ((t.f2.toNat : Nat) : Int) = t.f2 := by omega
            refine Ev.step (f := fun k => match_Expand.j2 k lim out l (l.length : Int) (i : Int) t.f0 t.f1 t.f2) (fun k => ?_) ?_
            · simp only [match_Expand.l0]
              rw [if_pos (by omega), if_pos (by omega), if_pos (by omega), ht, hf]
              simp only [Option.bind_some]
              rw [if_pos c1, if_neg c2, w64 (n := (out.length : Int) + mx 1 t.f1) (by omega) (by omega), if_neg c3, if_neg c4]
            · refine Ev.step (f := fun k => match_Expand.l1 k lim out l (l.length : Int) (i : Int) t.f1 0 t.f0 t.f1 t.f2) (fun k => rfl) ?_
              have := copy_l1 lim l (l.length : Int) (i : Int) t.f2.toNat (by omega) t.f0 t.f1 (expd lim r (copy t.f2.toNat t.f1.toNat out)) t.f1.toNat 0 out t.f1.toNat (by omega) (by omega) (by omega) (by rw [copy_length] at hal; omega) (by rw [hnext]; exact IH)
              rw [e1, e2] at this
              exact this
    · refine Ev.step (f := fun _ => some ((⟨#[]⟩ : ByteArray), 1)) (fun k => ?_) ?_
      · simp only [match_Expand.l0]
        rw [if_pos (by omega), if_pos (by omega), if_pos (by omega), ht, hf]
        simp only [Option.bind_some]
        rw [if_neg c1]
      · rw [expd, if_neg c1]; exact Ev.now _
theorem expand_r0 (lim : Int) (h0 : 0 ≤ lim) (h1 : lim ≤ 1073741824) (l : List Tk) (hl : l.length ≤ 1000000) (r : List Tk) : ∀ (i : Nat) (out : List Int), AtT l i r → (out.length : Int) ≤ lim →
    Ev (fun k => mortiseref08_Expand.l0 k l lim out (i : Int)) (expd lim r out) := by
  induction r with
  | nil =>
    intro i out ha ho
    have := ha.nil
    refine Ev.step (fun k => ?_) (Ev.now _)
    simp only [mortiseref08_Expand.l0]
    rw [if_neg (by omega)]
    rfl
  | cons t r ih =>
    intro i out ha ho
    obtain ⟨hi, ht, hn⟩ := ha.cons
    have hnext : wrap64 ((i : Int) + 1) = ((i + 1 : Nat) : Int) := by rw [w64 (by omega) (by omega)]; rfl
    have hf := may_ev t
    by_cases c1 : fineB t = true
    · have hcs := fineB_cases c1
      have hmx : 1 ≤ mx 1 t.f1 ∧ mx 1 t.f1 ≤ 258 := by rw [mx_one]; split <;> omega
      by_cases c2 : t.f2 > (out.length : Int)
      · refine Ev.step (f := fun _ => some ((⟨#[]⟩ : ByteArray), 3)) (fun k => ?_) ?_
        · simp only [mortiseref08_Expand.l0]
          rw [if_pos (by omega), if_pos (by omega), ht, hf]
          simp only [Option.bind_some]
          rw [if_pos c1, if_pos c2]
        · rw [expd, if_pos c1, if_pos c2]; exact Ev.now _
      · by_cases c3 : (out.length : Int) + mx 1 t.f1 > lim
        · refine Ev.step (f := fun _ => some ((⟨#[]⟩ : ByteArray), 11)) (fun k => ?_) ?_
          · simp only [mortiseref08_Expand.l0]
            rw [if_pos (by omega), if_pos (by omega), ht, hf]
            simp only [Option.bind_some]
            rw [if_pos c1, if_neg c2, w64 (n := lim - (out.length : Int)) (by omega) (by omega), if_pos (by omega)]
          · rw [expd, if_pos c1, if_neg c2, if_pos c3]; exact Ev.now _
        · rw [expd, if_pos c1, if_neg c2, if_neg c3]
          have hal := app_length c1 out
          have IH := ih (i + 1) (app t out) hn (by omega)
          by_cases c4 : t.f2 = 0
          · have ea : app t out = out ++ [t.f0] := by unfold app; rw [if_pos c4]
            rw [ea] at IH
            rw [ea]
            refine Ev.step (f := fun k => mortiseref08_Expand.l0 k l lim (out ++ [t.f0]) ((i + 1 : Nat) : Int)) (fun k => ?_) IH
            simp only [mortiseref08_Expand.l0]
            rw [if_pos (by omega), if_pos (by omega), ht, hf]
            simp only [Option.bind_some]
            rw [if_pos c1, if_neg c2, w64 (n := lim - (out.length : Int)) (by omega) (by omega), if_neg (by omega), if_pos c4, if_pos (by omega), hnext]
          · have hc4 : 0 < t.f2 ∧ t.f2 ≤ 32768 ∧ 3 ≤ t.f1 ∧ t.f1 ≤ 258 := by omega
            have ea : app t out = copy t.f2.toNat t.f1.toNat out := by unfold app; rw [if_neg c4]
            rw [ea] at IH hal
            rw [ea]
            have e1 : ((t.f1.toNat : Nat) : Int) = t.f1 := by omega
            have e2 : ((t.f2.toNat : Nat) : Int) = t.f2 := by omega
            refine Ev.step (f := fun k => mortiseref08_Expand.l1 k l lim out (i : Int) t.f1 0 t.f0 t.f1 t.f2) (fun k => ?_) ?_
            · simp only [mortiseref08_Expand.l0]
              rw [if_pos (by omega), if_pos (by omega), ht, hf]
              simp only [Option.bind_some]
              rw [if_pos c1, if_neg c2, w64 (n := lim - (out.length : Int)) (by omega) (by omega), if_neg (by omega), if_neg c4, mx_one, if_pos (by omega)]
            · have := copy_r1 lim l (i : Int) t.f2.toNat (by omega) t.f0 t.f1 (expd lim r (copy t.f2.toNat t.f1.toNat out)) t.f1.toNat 0 out t.f1.toNat (by omega) (by omega) (by omega) (by rw [copy_length] at hal; omega) (by rw [hnext]; exact IH)
              rw [e1, e2] at this
              exact this
    · refine Ev.step (f := fun _ => some ((⟨#[]⟩ : ByteArray), 1)) (fun k => ?_) ?_
      · simp only [mortiseref08_Expand.l0]
        rw [if_pos (by omega), if_pos (by omega), ht, hf]
        simp only [Option.bind_some]
        rw [if_neg c1]
      · rw [expd, if_neg c1]; exact Ev.now _
/-- What both expanders answer. -/
def expA (lim : Int) (l : List Tk) : ByteArray × Int := if lim < 0 ∨ lim > 1073741824 then ((⟨#[]⟩ : ByteArray), 1) else expd lim l []
theorem expand_ev (lim : Int) (l : List Tk) (hl : l.length ≤ 1000000) : Ev (fun k => match_Expand.f k l lim) (expA lim l) := by
  unfold expA match_Expand.f
  by_cases h0 : lim < 0
  · simp only [if_pos h0, if_pos (show lim < 0 ∨ lim > 1073741824 from .inl h0)]
    exact Ev.step (fun k => by rfl) (Ev.now _)
  · simp only [if_neg h0]
    by_cases h1 : lim > 1073741824
    · rw [if_pos (.inr h1)]
      exact Ev.step (fun k => by simp only [match_Expand.j0]; rw [if_pos (decide_eq_true h1)]) (Ev.now _)
    · rw [if_neg (by omega)]
      refine Ev.step (f := fun k => match_Expand.l0 k lim ([] : List Int) l (l.length : Int) 0) (fun k => ?_) (expand_l0 lim (by omega) (by omega) l hl l 0 [] ⟨rfl, Nat.zero_le _⟩ (by simp; omega))
      simp only [match_Expand.j0]
      rw [if_neg (by simpa using h1)]
theorem refExpand_ev (lim : Int) (l : List Tk) (hl : l.length ≤ 1000000) : Ev (fun k => mortiseref08_Expand.f k l lim) (expA lim l) := by
  unfold expA mortiseref08_Expand.f
  by_cases h0 : lim < 0
  · simp only [if_pos h0, if_pos (show lim < 0 ∨ lim > 1073741824 from .inl h0)]
    exact Ev.step (fun k => by rfl) (Ev.now _)
  · simp only [if_neg h0]
    by_cases h1 : lim > 1073741824
    · rw [if_pos (.inr h1)]
      exact Ev.step (fun k => by simp only [mortiseref08_Expand.j0]; rw [if_pos (decide_eq_true h1)]) (Ev.now _)
    · rw [if_neg (by omega)]
      refine Ev.step (f := fun k => mortiseref08_Expand.l0 k l lim ([] : List Int) 0) (fun k => ?_) (expand_r0 lim (by omega) (by omega) l hl l 0 [] ⟨rfl, Nat.zero_le _⟩ (by simp; omega))
      simp only [mortiseref08_Expand.j0]
      rw [if_neg (by simpa using h1)]

/-! ## a run that answers bytes -/
def run : List Tk → List Int → Option (List Int)
  | [], out => some out
  | t :: r, out => if fineB t = true ∧ t.f2 ≤ (out.length : Int) then run r (app t out) else none
theorem run_append (l m : List Tk) : ∀ out, run (l ++ m) out = (run l out).bind (run m) := by
  induction l with
  | nil => intro out; rfl
  | cons t l ih =>
    intro out
    rw [List.cons_append, run, run]
    split
    · exact ih _
    · rfl
theorem run_le (l : List Tk) : ∀ out o, run l out = some o → out.length ≤ o.length := by
  induction l with
  | nil => intro out o h; injection h with h; subst h; exact Nat.le_refl _
  | cons t l ih =>
    intro out o h
    rw [run] at h
    split at h
    · rename_i hc
      have := ih _ _ h
      have h2 := app_length hc.1 out
      have : 1 ≤ mx 1 t.f1 := by rw [mx_one]; split <;> omega
      omega
    · cases h
theorem expd_run (lim : Int) (l : List Tk) : ∀ out o, run l out = some o → (o.length : Int) ≤ lim → expd lim l out = (strOfNums o, 0) := by
  induction l with
  | nil => intro out o h _; injection h with h; subst h; rfl
  | cons t l ih =>
    intro out o h ho
    rw [run] at h
    split at h
    · rename_i hc
      have h1 := run_le _ _ _ h
      have h2 := app_length hc.1 out
      rw [expd, if_pos hc.1, if_neg (by omega), if_neg (by omega)]
      exact ih _ _ h ho
    · cases h
theorem expA_run {lim : Int} {l : List Tk} {o : List Int} (h : run l [] = some o) (ho : (o.length : Int) ≤ lim) (h1 : lim ≤ 1073741824) : expA lim l = (strOfNums o, 0) := by
  unfold expA
  rw [if_neg (by omega)]
  exact expd_run lim l [] o h ho
end Go.Proofs.Ytgalimhogolbjaa.Fnd
