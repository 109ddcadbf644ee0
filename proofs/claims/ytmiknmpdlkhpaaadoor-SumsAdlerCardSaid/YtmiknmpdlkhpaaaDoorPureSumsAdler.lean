/- Proved: for every start and every text, the program's Adler sum (in batches) is the reference's (byte by byte). Conditions: none beyond the card's own. -/
import Derived.Test.YtmiknmpdlkhpaaaDoorAdler
namespace Go.Proofs.YtmiknmpdlkhpaaaDoor.Pure
open Go Go.RowKit Go.Proofs.YtmiknmpdlkhpaaaDoor.PSumsAll Go.Proofs.YtmiknmpdlkhpaaaDoorW.PrintWords Go.Proofs.YtmiknmpdlkhpaaaDoorW.PrintLast Go.Proofs.YtmiknmpdlkhpaaaDoor.Mor

theorem wf_u32' {a : Int} (h : (Lit.int .u32 a).wf = true) : 0 ≤ a ∧ a < 4294967296 := by
  simp only [Lit.wf, Bool.and_eq_true, decide_eq_true_eq] at h
  have h1 : IntKind.u32.min = 0 := rfl
  have h2 : IntKind.u32.max = 4294967295 := rfl
  omega
theorem SumsAdler : mortiselaw03_SumsAdler.Pure := by
  intro a s ha hs
  have hs' : s.size ≤ big := by unfold big; omega
  obtain ⟨h0, h1⟩ := wf_u32' ha
  obtain ⟨c, rfl⟩ := Int.eq_ofNat_of_zero_le h0
  refine Ev.rounds (r := true) ?_
  unfold mortiselaw03_SumsAdler.f
  refine Ev.bind (adler_ev s) ?_
  refine Ev.bind (refAdler_ev s hs') ?_
  refine Ev.congr (fun _ => if_pos rfl) ?_
  refine Ev.bind (adlerMore_ev c s (by omega)) ?_
  refine Ev.bind (refAdlerMore_ev c s (by omega) hs') ?_
  refine Ev.congr (fun _ => if_pos rfl) ?_
  exact Ev.bind live_ev (Ev.now _)

end Go.Proofs.YtmiknmpdlkhpaaaDoor.Pure
