/- Proved: for every register and every text, the program's CRC, from nothing and behind any other text, is the reference's, and the document's answers come out. Conditions: none beyond the card's own (the table of half a byte is laid by the program's text). -/
import Derived.Test.YtmiknmpdlkhpaaaDoorAdler
namespace Go.Proofs.YtmiknmpdlkhpaaaDoor.Pure
open Go Go.RowKit Go.Proofs.YtmiknmpdlkhpaaaDoor.PSumsAll Go.Proofs.YtmiknmpdlkhpaaaDoorW.PrintWords Go.Proofs.YtmiknmpdlkhpaaaDoorW.PrintLast Go.Proofs.YtmiknmpdlkhpaaaDoor.Mor

theorem wf_u32 {a : Int} (h : (Lit.int .u32 a).wf = true) : 0 ≤ a ∧ a < 4294967296 := by
  simp only [Lit.wf, Bool.and_eq_true, decide_eq_true_eq] at h
  have h1 : IntKind.u32.min = 0 := rfl
  have h2 : IntKind.u32.max = 4294967295 := rfl
  omega
theorem SumsCrc : mortiselaw03_SumsCrc.Pure := by
  intro a s ha hs
  have hs' : s.size ≤ big := by unfold big; omega
  obtain ⟨h0, h1⟩ := wf_u32 ha
  obtain ⟨c, rfl⟩ := Int.eq_ofNat_of_zero_le h0
  refine Ev.rounds (r := true) ?_
  unfold mortiselaw03_SumsCrc.f
  refine Ev.bind (g := fun _ => sums_Crc.f _) ⟨0, fun _ _ => crc_ev s hs'⟩ ?_
  refine Ev.bind (refCrc_ev s hs') ?_
  refine Ev.congr (fun _ => if_pos rfl) ?_
  refine Ev.bind (g := fun _ => sums_More.f _ _) ⟨0, fun _ _ => more_ev c s (by omega) hs'⟩ ?_
  refine Ev.bind (refMore_ev c s (by omega) hs') ?_
  refine Ev.congr (fun _ => if_pos rfl) ?_
  exact Ev.bind live_ev (Ev.now _)

end Go.Proofs.YtmiknmpdlkhpaaaDoor.Pure
