/- Proved: for every text, a header's sum and its error are the reference's. Conditions: none beyond the card's own. -/
import Derived.Test.YtmiknmpdlkhpaaaDoorAdler
namespace Go.Proofs.YtmiknmpdlkhpaaaDoor.Pure
open Go Go.RowKit Go.Proofs.YtmiknmpdlkhpaaaDoor.PSumsAll Go.Proofs.YtmiknmpdlkhpaaaDoorW.PrintWords Go.Proofs.YtmiknmpdlkhpaaaDoorW.PrintLast Go.Proofs.YtmiknmpdlkhpaaaDoor.Mor

theorem SumsTar : mortiselaw03_SumsTar.Pure := by
  intro s hs
  refine Ev.rounds (r := true) ?_
  unfold mortiselaw03_SumsTar.f
  refine Ev.bind (tar_ev s) ?_
  refine Ev.bind (refTar_ev s) ?_
  refine Ev.congr (fun _ => if_pos rfl) ?_
  refine Ev.congr (fun _ => if_pos rfl) ?_
  exact Ev.bind live_ev (Ev.now _)

end Go.Proofs.YtmiknmpdlkhpaaaDoor.Pure
