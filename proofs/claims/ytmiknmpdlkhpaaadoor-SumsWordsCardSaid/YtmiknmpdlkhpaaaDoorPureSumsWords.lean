/- Proved: for every text, the sum of its words is the reference's. Conditions: none beyond the card's own. -/
import Derived.Test.YtmiknmpdlkhpaaaDoorAdler
namespace Go.Proofs.YtmiknmpdlkhpaaaDoor.Pure
open Go Go.RowKit Go.Proofs.YtmiknmpdlkhpaaaDoor.PSumsAll Go.Proofs.YtmiknmpdlkhpaaaDoorW.PrintWords Go.Proofs.YtmiknmpdlkhpaaaDoorW.PrintLast Go.Proofs.YtmiknmpdlkhpaaaDoor.Mor

theorem SumsWords : mortiselaw03_SumsWords.Pure := by
  intro s hs
  have hs' : s.size ≤ big := by unfold big; omega
  refine Ev.rounds (r := true) ?_
  unfold mortiselaw03_SumsWords.f
  refine Ev.bind (words_ev s hs') ?_
  refine Ev.bind (refWords_ev s hs') ?_
  refine Ev.congr (fun _ => if_pos rfl) ?_
  exact Ev.bind live_ev (Ev.now _)

end Go.Proofs.YtmiknmpdlkhpaaaDoor.Pure
