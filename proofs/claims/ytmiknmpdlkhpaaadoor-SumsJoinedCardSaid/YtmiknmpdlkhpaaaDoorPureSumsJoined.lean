/- Proved: the CRC, the Adler sum and (behind whole words) the words' sum of two texts one behind the other, for any two texts. Conditions: none beyond the card's own. -/
import Derived.Test.YtmiknmpdlkhpaaaDoorAdler
namespace Go.Proofs.YtmiknmpdlkhpaaaDoor.Pure
open Go Go.RowKit Go.Proofs.YtmiknmpdlkhpaaaDoor.PSumsAll Go.Proofs.YtmiknmpdlkhpaaaDoorW.PrintWords Go.Proofs.YtmiknmpdlkhpaaaDoorW.PrintLast Go.Proofs.YtmiknmpdlkhpaaaDoor.Mor

theorem byts_append (s t : ByteArray) : byts (s ++ t) = byts s ++ byts t := by
  simp [byts, ByteArray.data_append]
theorem j0_ev (s t : ByteArray) (hs : s.size ≤ 140737488351232) (ht : t.size ≤ 140737488351232) : Ev (fun k => mortiselaw03_SumsJoined.j0 k s t false) true := by
  have hs' : s.size ≤ big := by unfold big; omega
  have ht' : t.size ≤ big := by unfold big; omega
  have hst : (s ++ t).size ≤ big := by rw [ByteArray.size_append]; unfold big; omega
  by_cases h4 : s.size % 4 = 0
  · have hw := words_join (byts s) (byts t) (by rw [byts_length]; exact h4)
    rw [← byts_append] at hw
    refine Ev.step (f := fun k => (sums_Words.f k (s ++ t)).bind fun t134 => (sums_Words.f k s).bind fun t135 => (sums_Words.f k t).bind fun t136 => if t134 = (t135 + t136) % 4294967296 then (mortiselaw03_live.f k).bind fun t137 => some t137 else some false) (fun k => ?_) ?_
    · simp only [mortiselaw03_SumsJoined.j0]
      rw [if_neg (by decide), if_pos (by omega), if_pos (by omega)]
    · refine Ev.bind (words_ev _ hst) (Ev.bind (words_ev _ hs') (Ev.bind (words_ev _ ht') ?_))
      refine Ev.congr (fun _ => if_pos (by rw [hw]; omega)) ?_
      exact Ev.bind live_ev (Ev.now _)
  · refine Ev.step (f := fun k => (mortiselaw03_live.f k).bind fun t138 => some t138) (fun k => ?_) (Ev.bind live_ev (Ev.now _))
    simp only [mortiselaw03_SumsJoined.j0]
    rw [if_neg (by decide), if_neg (by omega)]
theorem SumsJoined : mortiselaw03_SumsJoined.Pure := by
  intro s t hs ht
  have hs' : s.size ≤ big := by unfold big; omega
  have ht' : t.size ≤ big := by unfold big; omega
  have hst : (s ++ t).size ≤ big := by rw [ByteArray.size_append]; unfold big; omega
  refine Ev.rounds (r := true) ?_
  unfold mortiselaw03_SumsJoined.f
  refine Ev.congr (fun _ => if_pos (by omega)) ?_
  refine Ev.bind (g := fun _ => sums_Crc.f _) ⟨0, fun _ _ => crc_ev _ hst⟩ ?_
  refine Ev.bind (g := fun _ => sums_Crc.f _) ⟨0, fun _ _ => crc_ev _ hs'⟩ ?_
  have hc : crcMore 0 (byts s) < 4294967296 := crcMore_lt (by decide) (byts_lt s)
  refine Ev.bind (g := fun _ => sums_More.f _ _) ⟨0, fun _ _ => more_ev (crcMore 0 (byts s)) t hc ht'⟩ ?_
  refine Ev.congr (fun _ => if_pos (by rw [byts_append, crcMore_append])) ?_
  refine Ev.bind (adler_ev _) (Ev.bind (adler_ev _) ?_)
  refine Ev.bind (adlerMore_ev (adlerMore 1 (byts s)) t (adlerMore_lt _ _)) ?_
  have e : ((((adlerMore 1 (byts (s ++ t)) : Nat) : Int)) != ((adlerMore (adlerMore 1 (byts s)) (byts t) : Nat) : Int)) = false := by
    rw [byts_append, adlerMore_append]; simp
  rw [e]
  exact j0_ev s t hs ht

end Go.Proofs.YtmiknmpdlkhpaaaDoor.Pure
