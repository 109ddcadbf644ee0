/- Proved: a text's bytes as plain tokens expand to the text, and cost what they must. Conditions: none beyond the card's own. -/
import Derived.Test.YtgalimhogolbjaaMatchCost
namespace Go.Proofs.Ytgalimhogolbjaa.Pure
open Go Go.RowKit Go.Proofs.Ytgalimhogolbjaa.PMatchAll Go.Proofs.YtgalimhogolbjaaW.PrintWords Go.Proofs.YtgalimhogolbjaaW.PrintLast Go.Proofs.Ytgalimhogolbjaa.Fnd

/-- The first i bytes as tokens. -/
def plain (s : ByteArray) : Nat → List Tk
  | 0 => []
  | i + 1 => plain s i ++ [⟨bt s (i : Int), 0, 0⟩]
theorem plain_length (s : ByteArray) : ∀ i, (plain s i).length = i := by
  intro i
  induction i with
  | zero => rfl
  | succ i ih => rw [plain, List.length_append, ih]; rfl
theorem plain_run (s : ByteArray) : ∀ i, i ≤ s.size → run (plain s i) [] = some ((bytesOf s).take i) := by
  intro i
  induction i with
  | zero => intro _; rfl
  | succ i ih =>
    intro hi
    rw [plain, run_append, ih (by omega)]
    show run [(⟨bt s (i : Int), 0, 0⟩ : Tk)] ((bytesOf s).take i) = _
    rw [run, if_pos ⟨rfl, by dsimp only; omega⟩]
    show some ((bytesOf s).take i ++ [bt s (i : Int)]) = _
    rw [← B_at, take_next _ _ (by rw [bytesOf_length]; omega)]
theorem plain_last (s : ByteArray) (hs : s.size ≤ 5000) : Ev (fun k => (match_Expand.f k (plain s s.size) (s.size : Int)).bind fun bt239 => ((match_Cost.f k (plain s s.size)).bind fun bt241 => (if bt239.1.toList = s.toList then (if bt239.2 = 0 then (if bt241.1 = 7 + tot (plain s s.size) then (if bt241.2 = 0 then ((mortiselaw08_live.f k).bind fun t243 => (some t243)) else (some false)) else (some false)) else (some false)) else (some false)))) true := by
  have r := plain_run s s.size (Nat.le_refl _)
  have hl := plain_length s s.size
  have hB := bytesOf_length s
  rw [List.take_of_length_le (by omega)] at r
  have he : expA (s.size : Int) (plain s s.size) = (s, 0) := by
    rw [expA_run r (by omega) (by omega), strOfNums_bytesOf]
  refine Ev.bind (expand_ev _ _ (by omega)) ?_
  refine Ev.bind (cost_ev _ (by omega)) ?_
  rw [he, cst_run _ _ _ _ r]
  refine Ev.congr (fun _ => ?_) liveSome_ev
  rw [if_pos rfl, if_pos rfl, if_pos rfl, if_pos rfl]
theorem plain_l0 (s : ByteArray) (hs : s.size ≤ 5000) : ∀ (d i : Nat), i + d = s.size → Ev (fun k => mortiselaw08_MatchPlain.l0 k s (plain s i) (7 + tot (plain s i)) (i : Int)) true := by
  intro d
  induction d with
  | zero =>
    intro i hi
    obtain rfl : i = s.size := by omega
    refine Ev.step (fun k => ?_) (plain_last s hs)
    simp only [mortiselaw08_MatchPlain.l0]
    rw [if_neg (by omega)]
  | succ d ih =>
    intro i hi
    have IH := ih (i + 1) (by omega)
    have hl := plain_length s i
    have ht := tot_le (plain s i)
    refine Ev.step (fun k => ?_) IH
    simp only [mortiselaw08_MatchPlain.l0]
    rw [if_pos (by omega), if_pos (by omega), if_pos (by omega)]
    simp only [Option.bind_some]
    have e : tot (plain s (i + 1)) = tot (plain s i) + (if bt s (i : Int) < 144 then 8 else 9 : Nat) := by
      rw [plain, tot_append, tot, tot, show tc (⟨bt s (i : Int), 0, 0⟩ : Tk) = (if bt s (i : Int) < 144 then 8 else 9) from if_pos rfl]
      omega
    rw [w64 (n := (i : Int) + 1) (by omega) (by omega), w64 (n := 7 + tot (plain s i) + 8) (by omega) (by omega), w64 (n := 7 + tot (plain s i) + 8 + 1) (by omega) (by omega), e]
    by_cases c : bt s (i : Int) < 144
    · rw [if_neg (by omega), if_pos c]
      congr 1; omega
    · rw [if_pos (by omega), if_neg c]
      congr 1; omega
theorem MatchPlain : mortiselaw08_MatchPlain.Pure := by
  intro s _
  refine Ev.rounds (r := true) ?_
  unfold mortiselaw08_MatchPlain.f
  by_cases h : (s.size : Int) > 5000
  · simp only [if_pos h]; exact liveSome_ev
  · simp only [if_neg h]
    exact plain_l0 s (by omega) s.size 0 (by omega)

end Go.Proofs.Ytgalimhogolbjaa.Pure
