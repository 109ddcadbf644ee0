/- Proved: for every text, the found tokens expand to the text, by the reference, and are no more than its bytes. Conditions: none beyond the card's own. -/
import Derived.Test.YtgalimhogolbjaaMatchCost
namespace Go.Proofs.Ytgalimhogolbjaa.Pure
open Go Go.RowKit Go.Proofs.Ytgalimhogolbjaa.PMatchAll Go.Proofs.YtgalimhogolbjaaW.PrintWords Go.Proofs.YtgalimhogolbjaaW.PrintLast Go.Proofs.Ytgalimhogolbjaa.Fnd

theorem MatchFinds : mortiselaw08_MatchFinds.Pure := by
  intro s hs
  refine Ev.rounds (r := true) ?_
  unfold mortiselaw08_MatchFinds.f
  by_cases h : (s.size : Int) > 20000
  · simp only [if_pos h]; exact liveSome_ev
  · simp only [if_neg h]
    have hlen := find_length s
    have hB := bytesOf_length s
    have he : expA (s.size : Int) (find s) = (s, 0) := by
      rw [expA_run (find_run s []) (by simp; omega) (by omega), List.nil_append, strOfNums_bytesOf]
    refine Ev.bind (a := find s) (Ev.congr (fun _ => find_small s (by omega)) (Ev.now _)) ?_
    refine Ev.bind (refExpand_ev (s.size : Int) (find s) (by omega)) ?_
    rw [he]
    refine Ev.congr (fun _ => ?_) liveSome_ev
    rw [if_pos (by omega), if_pos rfl, if_pos rfl]

end Go.Proofs.Ytgalimhogolbjaa.Pure
