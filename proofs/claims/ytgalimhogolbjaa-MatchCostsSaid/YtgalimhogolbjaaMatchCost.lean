/- What the program's count of bits comes to, in plain Lean: a sum over the tokens; and the witness that all laws of the matches hold. -/
import Derived.Test.YtgalimhogolbjaaMatchFound
namespace Go.Proofs.Ytgalimhogolbjaa.Fnd
open Go Go.RowKit Go.Proofs.Ytgalimhogolbjaa.PMatchAll Go.Proofs.YtgalimhogolbjaaW.PrintWords Go.Proofs.YtgalimhogolbjaaW.PrintLast Go.Proofs.YtgalimhogolbjaaW.PrintMore

/-- How often n is halved until it is below T. -/
def mo (T : Nat) : Nat → Nat → Nat
  | 0, _ => 0
  | f + 1, n => if T ≤ n then 1 + mo T f (n / 2) else 0
theorem mo_le (T : Nat) : ∀ f n, mo T f n ≤ f := by
  intro f
  induction f with
  | zero => intro n; exact Nat.le_refl _
  | succ f ih => intro n; rw [mo]; have := ih (n / 2); split <;> omega
theorem more_l0 (b : Int) (T : Nat) (hb : 0 ≤ b) (hT : shl .i64 2 b = (T : Int)) (h1 : 1 ≤ T) : ∀ (f n c : Nat), n < 2 ^ f → c + f ≤ 1000 → Ev (fun k => match_more.l0 k (n : Int) b (c : Int)) ((c + mo T f n : Nat) : Int) := by
  intro f
  induction f with
  | zero =>
    intro n c hn hc
    refine Ev.step (fun k => ?_) (Ev.now _)
    simp only [match_more.l0]
    rw [if_pos hb, hT, if_neg (by omega)]; rfl
  | succ f ih =>
    intro n c hn hc
    rw [mo]
    by_cases h : T ≤ n
    · rw [if_pos h]
      have := ih (n / 2) (c + 1) (by rw [Nat.pow_succ] at hn; omega) (by omega)
      rw [show c + (1 + mo T f (n / 2)) = c + 1 + mo T f (n / 2) from by omega]
      refine Ev.step (fun k => ?_) this
      simp only [match_more.l0]
      rw [if_pos hb, hT, if_pos (by omega), w64 (by omega) (by omega)]
      congr 1
    · rw [if_neg h]
      refine Ev.step (fun k => ?_) (Ev.now _)
      simp only [match_more.l0]
      rw [if_pos hb, hT, if_neg (by omega)]; rfl
theorem more_ev (b : Int) (T : Nat) (hb : 0 ≤ b) (hT : shl .i64 2 b = (T : Int)) (h1 : 1 ≤ T) (n : Int) (h0 : 0 ≤ n) (hn : n < 1048576) : Ev (fun k => match_more.f k n b) ((mo T 20 n.toNat : Nat) : Int) := by
  have := more_l0 b T hb hT h1 20 n.toNat 0 (by omega) (by omega)
  rw [Nat.zero_add, Int.toNat_of_nonneg h0] at this
  exact this
/-- The bits of a length's symbol and of what follows it. -/
def lb (n : Int) : Nat := if n = 258 then 8 else if n ≥ 115 then 8 + mo 8 20 (n - 3).toNat else 7 + mo 8 20 (n - 3).toNat
theorem lengthBits_ev (n : Int) (h0 : 3 ≤ n) (h1 : n ≤ 258) : Ev (fun k => match_lengthBits.f k n) ((lb n : Nat) : Int) := by
  unfold match_lengthBits.f lb
  have hm := more_ev 2 8 (by decide) (by decide) (by decide) (n - 3) (by omega) (by omega)
  have hle := mo_le 8 20 (n - 3).toNat
  rw [w64 (n := n - 3) (by omega) (by omega)]
  by_cases c1 : n = 258
  · simp only [if_pos c1]; exact Ev.now _
  · simp only [if_neg c1]
    by_cases c2 : n ≥ 115
    · simp only [if_pos c2]
      refine Ev.bind hm ?_
      rw [w64 (by omega) (by omega)]; exact Ev.now _
    · simp only [if_neg c2]
      refine Ev.bind hm ?_
      rw [w64 (by omega) (by omega)]; exact Ev.now _
theorem lb_le (n : Int) : lb n ≤ 28 := by
  have := mo_le 8 20 (n - 3).toNat
  unfold lb; repeat' split
  all_goals omega
/-- A token's bits. -/
def tc (t : Tk) : Nat := if t.f2 = 0 then (if t.f0 < 144 then 8 else 9) else lb t.f1 + 5 + mo 4 20 (t.f2 - 1).toNat
theorem tc_le (t : Tk) : tc t ≤ 53 := by
  have := lb_le t.f1
  have := mo_le 4 20 (t.f2 - 1).toNat
  unfold tc; repeat' split
  all_goals omega
def cst : List Tk → Int → Int × Int
  | [], a => (a, 0)
  | t :: r, a => if fineB t = true then cst r (a + tc t) else (0, 1)
theorem cost_l0 (l : List Tk) (hl : l.length ≤ 1000000) (r : List Tk) : ∀ (i : Nat) (a : Int), AtT l i r → 0 ≤ a → a ≤ 100 * (i : Int) + 100 →
    Ev (fun k => match_Cost.l0 k a l (l.length : Int) (i : Int)) (cst r a) := by
  induction r with
  | nil =>
    intro i a ha h0 h1
    have := ha.nil
    refine Ev.step (fun k => ?_) (Ev.now _)
    simp only [match_Cost.l0]
    rw [if_neg (by omega)]
    rfl
  | cons t r ih =>
    intro i a ha h0 h1
    obtain ⟨hi, ht, hn⟩ := ha.cons
    have hnext : wrap64 ((i : Int) + 1) = ((i + 1 : Nat) : Int) := by rw [w64 (by omega) (by omega)]; rfl
    have hf := fine_ev t
    by_cases c1 : fineB t = true
    · have hcs := fineB_cases c1
      have hle := tc_le t
      have IH := ih (i + 1) (a + tc t) hn (by omega) (by omega)
      rw [cst, if_pos c1]
      by_cases c4 : t.f2 = 0
      · by_cases c5 : t.f0 < 144
        · have etc : tc t = 8 := by unfold tc; rw [if_pos c4, if_pos c5]
          refine Ev.step (f := fun k => match_Cost.j1 k a l (l.length : Int) (i : Int) true t.f0 t.f1 t.f2) (fun k => ?_) ?_
          · simp only [match_Cost.l0]
            rw [if_pos (by omega), if_pos (by omega), if_pos (by omega), ht, hf]
            simp only [Option.bind_some]
            rw [if_pos c1, if_pos c4, decide_eq_true c5]
          · refine Ev.step (fun k => ?_) IH
            simp only [match_Cost.j1]
            rw [hnext, w64 (by omega) (by omega), etc]
            rfl
        · have etc : tc t = 9 := by unfold tc; rw [if_pos c4, if_neg c5]
          refine Ev.step (f := fun k => match_Cost.j1 k a l (l.length : Int) (i : Int) false t.f0 t.f1 t.f2) (fun k => ?_) ?_
          · simp only [match_Cost.l0]
            rw [if_pos (by omega), if_pos (by omega), if_pos (by omega), ht, hf]
            simp only [Option.bind_some]
            rw [if_pos c1, if_pos c4, decide_eq_false c5]
          · refine Ev.step (fun k => ?_) IH
            simp only [match_Cost.j1]
            rw [hnext, if_neg (by simp), if_pos c4, w64 (by omega) (by omega), etc]
            rfl
      · have hc4 : 0 < t.f2 ∧ t.f2 ≤ 32768 ∧ 3 ≤ t.f1 ∧ t.f1 ≤ 258 := by omega
        have etc : tc t = lb t.f1 + 5 + mo 4 20 (t.f2 - 1).toNat := by unfold tc; rw [if_neg c4]
        refine Ev.step (f := fun k => match_Cost.j1 k a l (l.length : Int) (i : Int) false t.f0 t.f1 t.f2) (fun k => ?_) ?_
        · simp only [match_Cost.l0]
          rw [if_pos (by omega), if_pos (by omega), if_pos (by omega), ht, hf]
          simp only [Option.bind_some]
          rw [if_pos c1, if_neg c4]
        · have hm := more_ev 1 4 (by decide) (by decide) (by decide) (t.f2 - 1) (by omega) (by omega)
          have hb := lengthBits_ev t.f1 (by omega) (by omega)
          refine Ev.step (f := fun k => (match_lengthBits.f k t.f1).bind fun t117 => ((match_more.f k (t.f2 - 1) 1).bind fun t118 => (match_Cost.l0 k (wrap64 (a + (wrap64 ((wrap64 (t117 + 5)) + t118)))) l (l.length : Int) ((i + 1 : Nat) : Int)))) (fun k => ?_) ?_
          · simp only [match_Cost.j1]
            rw [if_neg (by simp), if_neg c4, hnext, w64 (n := t.f2 - 1) (by omega) (by omega)]
          · refine Ev.bind hb (Ev.bind hm ?_)
            have e : wrap64 (a + (wrap64 ((wrap64 (((lb t.f1 : Nat) : Int) + 5)) + ((mo 4 20 (t.f2 - 1).toNat : Nat) : Int)))) = a + tc t := by
              rw [w64 (n := ((lb t.f1 : Nat) : Int) + 5) (by omega) (by omega), w64 (n := ((lb t.f1 : Nat) : Int) + 5 + _) (by omega) (by omega), w64 (by omega) (by omega), etc]
              omega
            simp only [e]
            exact IH
    · refine Ev.step (f := fun _ => some ((0 : Int), (1 : Int))) (fun k => ?_) ?_
      · simp only [match_Cost.l0]
        rw [if_pos (by omega), if_pos (by omega), if_pos (by omega), ht, hf]
        simp only [Option.bind_some]
        rw [if_neg c1]
      · rw [cst, if_neg c1]; exact Ev.now _
theorem cost_ev (l : List Tk) (hl : l.length ≤ 1000000) : Ev (fun k => match_Cost.f k l) (cst l 7) := cost_l0 l hl l 0 7 ⟨rfl, Nat.zero_le _⟩ (by omega) (by omega)

def tot : List Tk → Int
  | [] => 0
  | t :: r => tc t + tot r
theorem tot_append (l m : List Tk) : tot (l ++ m) = tot l + tot m := by
  induction l with
  | nil => simp [tot]
  | cons t l ih => rw [List.cons_append, tot, tot, ih]; omega
theorem tot_le (l : List Tk) : 0 ≤ tot l ∧ tot l ≤ 53 * (l.length : Int) := by
  induction l with
  | nil => simp [tot]
  | cons t l ih => have := tc_le t; rw [tot, List.length_cons]; omega
theorem cst_run (l : List Tk) : ∀ (out o : List Int) (a : Int), run l out = some o → cst l a = (a + tot l, 0) := by
  induction l with
  | nil => intro out o a _; rw [cst, tot]; simp
  | cons t l ih =>
    intro out o a h
    rw [run] at h
    split at h
    · rename_i hc
      rw [cst, if_pos hc.1, ih _ _ _ h, tot]
      congr 1; omega
    · cases h

theorem find_small (s : ByteArray) (h : s.size ≤ 20000) : match_Find.f s = some (find s) := by unfold match_Find.f; rw [if_pos h]
theorem live_a : expA 6 [(⟨97, 0, 0⟩ : Tk), ⟨98, 0, 0⟩, ⟨0, 4, 2⟩] = (⟨#[97, 98, 97, 98, 97, 98]⟩, 0) := by rfl
theorem live_b : expA 6 [(⟨0, 4, 2⟩ : Tk)] = (⟨#[]⟩, 3) := by rfl
theorem live_c : cst [(⟨97, 0, 0⟩ : Tk)] 7 = (15, 0) := by rfl
theorem live_d : ((⟨#[97, 98, 97, 98, 97, 98]⟩ : ByteArray), (0 : Int)).1.toList = ([97, 98, 97, 98, 97, 98] : List UInt8) := by
  unfold ByteArray.toList
  rw [ByteArray.toList.loop, if_pos (by decide)]
  rw [ByteArray.toList.loop, if_pos (by decide)]
  rw [ByteArray.toList.loop, if_pos (by decide)]
  rw [ByteArray.toList.loop, if_pos (by decide)]
  rw [ByteArray.toList.loop, if_pos (by decide)]
  rw [ByteArray.toList.loop, if_pos (by decide)]
  rw [ByteArray.toList.loop, if_neg (by decide)]
  rfl
theorem live_ev : Ev (fun k => mortiselaw08_live.f k) true := by
  unfold mortiselaw08_live.f
  refine Ev.bind (expand_ev 6 _ (by decide)) ?_
  refine Ev.bind (expand_ev 6 _ (by decide)) ?_
  refine Ev.bind (cost_ev _ (by decide)) ?_
  refine Ev.bind (a := find ⟨#[97, 98]⟩) (Ev.congr (fun _ => find_small _ (by decide)) (Ev.now _)) ?_
  rw [live_a, live_b, live_c]
  refine Ev.congr (fun _ => ?_) (Ev.now _)
  rw [if_pos live_d, if_pos rfl, if_pos rfl, if_pos rfl, if_pos rfl]
  rfl
theorem liveSome_ev : Ev (fun k => (mortiselaw08_live.f k).bind fun t => some t) true := Ev.bind live_ev (Ev.now _)
end Go.Proofs.Ytgalimhogolbjaa.Fnd
