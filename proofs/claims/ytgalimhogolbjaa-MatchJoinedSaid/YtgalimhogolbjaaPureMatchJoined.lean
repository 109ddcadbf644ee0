/- Proved: the found tokens of two texts, laid end to end, expand to the joined text, and their costs add. Conditions: none beyond the card's own. -/
import Derived.Test.YtgalimhogolbjaaMatchCost
namespace Go.Proofs.Ytgalimhogolbjaa.Pure
open Go Go.RowKit Go.Proofs.Ytgalimhogolbjaa.PMatchAll Go.Proofs.YtgalimhogolbjaaW.PrintWords Go.Proofs.YtgalimhogolbjaaW.PrintLast Go.Proofs.Ytgalimhogolbjaa.Fnd

theorem bytesOf_append (a b : ByteArray) : bytesOf (a ++ b) = bytesOf a ++ bytesOf b := by
  simp [bytesOf, ByteArray.data_append]
theorem joined_tail (a b : ByteArray) (h0 : ¬ (a.size : Int) > 5000) (h1 : ¬ (b.size : Int) > 5000) (l m : List Tk) (ra : run l [] = some (bytesOf a)) (rb : run m (bytesOf a) = some (bytesOf a ++ bytesOf b)) (la : l.length ≤ a.size) (lb : m.length ≤ b.size) : Ev (fun k => (if ([] : List Tk).length + l.length < 5864062014805 then ((some (([] : List Tk) ++ l : List Tk)).bind fun y220 => (if y220.length + m.length < 5864062014805 then ((some (y220 ++ m : List Tk)).bind fun y223 => ((match_Expand.f k y223 (wrap64 ((a.size : Int) + (b.size : Int)))).bind fun bt226 => ((match_Cost.f k l).bind fun bt228 => ((match_Cost.f k m).bind fun bt230 => ((match_Cost.f k y223).bind fun bt232 => (if a.size + b.size ≤ 9223372036854775807 then (if bt226.1.toList = (a ++ b).toList then (if bt226.2 = 0 then (if bt228.2 = 0 then (if bt230.2 = 0 then (if bt232.2 = 0 then (if bt232.1 = (wrap64 ((wrap64 (bt228.1 + bt230.1)) - 7)) then ((mortiselaw08_live.f k).bind fun t234 => (some t234)) else (some false)) else (some false)) else (some false)) else (some false)) else (some false)) else (some false)) else (none))))))) else (none))) else (none))) true := by
  have rj : run (l ++ m) [] = some (bytesOf a ++ bytesOf b) := by rw [run_append, ra, Option.bind_some]; exact rb
  have za := bytesOf_length a
  have zb := bytesOf_length b
  have he : expA ((a.size : Int) + (b.size : Int)) (l ++ m) = (a ++ b, 0) := by
    rw [expA_run rj (by rw [List.length_append]; omega) (by omega), ← bytesOf_append, strOfNums_bytesOf]
  have ta := tot_le l
  have tb := tot_le m
  have q1 : ([] : List Tk).length + l.length < 5864062014805 := by rw [List.length_nil]; omega
  have q3 : a.size + b.size ≤ 9223372036854775807 := by omega
  have q2 : (([] : List Tk) ++ l).length + m.length < 5864062014805 := by rw [List.nil_append]; omega
  refine Ev.congr (fun _ => if_pos q1) ?_
  refine Ev.congr (fun _ => Option.bind_some _ _) ?_
  refine Ev.congr (fun _ => if_pos q2) ?_
  refine Ev.congr (fun _ => Option.bind_some _ _) ?_
  rw [List.nil_append]
  rw [w64 (n := (a.size : Int) + (b.size : Int)) (by omega) (by omega)]
  refine Ev.bind (expand_ev _ (l ++ m) (by rw [List.length_append]; omega)) ?_
  refine Ev.bind (cost_ev l (by omega)) ?_
  refine Ev.bind (cost_ev m (by omega)) ?_
  refine Ev.bind (cost_ev (l ++ m) (by rw [List.length_append]; omega)) ?_
  rw [he, cst_run _ _ _ _ ra, cst_run _ _ _ _ rb, cst_run _ _ _ _ rj, tot_append]
  refine Ev.congr (fun _ => ?_) liveSome_ev
  dsimp only
  rw [w64 (n := 7 + tot l + (7 + tot m)) (by omega) (by omega), w64 (by omega) (by omega), if_pos q3, if_pos rfl, if_pos rfl, if_pos rfl, if_pos rfl, if_pos rfl, if_pos (by omega)]
theorem joined_last (a b : ByteArray) (h0 : ¬ (a.size : Int) > 5000) (h1 : ¬ (b.size : Int) > 5000) : Ev (fun k => (match_Find.f a).bind fun t214 => ((match_Find.f b).bind fun t217 => (if ([] : List Tk).length + t214.length < 5864062014805 then ((some (([] : List Tk) ++ t214 : List Tk)).bind fun y220 => (if y220.length + t217.length < 5864062014805 then ((some (y220 ++ t217 : List Tk)).bind fun y223 => ((match_Expand.f k y223 (wrap64 ((a.size : Int) + (b.size : Int)))).bind fun bt226 => ((match_Cost.f k t214).bind fun bt228 => ((match_Cost.f k t217).bind fun bt230 => ((match_Cost.f k y223).bind fun bt232 => (if a.size + b.size ≤ 9223372036854775807 then (if bt226.1.toList = (a ++ b).toList then (if bt226.2 = 0 then (if bt228.2 = 0 then (if bt230.2 = 0 then (if bt232.2 = 0 then (if bt232.1 = (wrap64 ((wrap64 (bt228.1 + bt230.1)) - 7)) then ((mortiselaw08_live.f k).bind fun t234 => (some t234)) else (some false)) else (some false)) else (some false)) else (some false)) else (some false)) else (some false)) else (none))))))) else (none))) else (none)))) true := by
  have ra := find_run a []
  rw [List.nil_append] at ra
  refine Ev.bind (a := find a) (Ev.congr (fun _ => find_small a (by omega)) (Ev.now _)) ?_
  refine Ev.bind (a := find b) (Ev.congr (fun _ => find_small b (by omega)) (Ev.now _)) ?_
  exact joined_tail a b h0 h1 (find a) (find b) ra (find_run b (bytesOf a)) (find_length a) (find_length b)
theorem MatchJoined : mortiselaw08_MatchJoined.Pure := by
  intro a b _ _
  refine Ev.rounds (r := true) ?_
  unfold mortiselaw08_MatchJoined.f
  by_cases h0 : (a.size : Int) > 5000
  · simp only [if_pos h0]
    exact Ev.step (f := fun k => (mortiselaw08_live.f k).bind fun t => some t) (fun k => rfl) liveSome_ev
  · simp only [if_neg h0]
    by_cases h1 : (b.size : Int) > 5000
    · refine Ev.step (f := fun k => (mortiselaw08_live.f k).bind fun t => some t) (fun k => ?_) liveSome_ev
      simp only [mortiselaw08_MatchJoined.j0]
      rw [if_pos (decide_eq_true h1)]
    · refine Ev.step (fun k => ?_) (joined_last a b h0 h1)
      simp only [mortiselaw08_MatchJoined.j0]
      rw [if_neg (by simpa using h1)]

end Go.Proofs.Ytgalimhogolbjaa.Pure
