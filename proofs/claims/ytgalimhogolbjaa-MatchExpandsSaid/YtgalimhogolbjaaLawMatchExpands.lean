/- Proved: for every list of tokens and every bound, both expanders answer alike. Conditions: none beyond the card's own. -/
import Derived.Test.YtgalimhogolbjaaRows
import Derived.Test.YtgalimhogolbjaaMatchCost
import Derived.Test.YtgalimhogolbjaaToks
import Derived.WalkKit
import Derived.ProofKit
import Derived.OpenShut
import Derived.ShutString
import Derived.ChangeOld
import Derived.Below
import Derived.SizedLaws
namespace Go.Proofs.Ytgalimhogolbjaa.Pure
open Go Go.RowKit Go.Proofs.Ytgalimhogolbjaa.PMatchAll Go.Proofs.YtgalimhogolbjaaW.PrintWords Go.Proofs.YtgalimhogolbjaaW.PrintLast Go.Proofs.Ytgalimhogolbjaa.Fnd
theorem MatchExpands (l : List Tk) (lim : Int) : ∃ k, mortiselaw08_MatchExpands.f k l lim = some true := by
  refine Ev.rounds (r := true) ?_
  unfold mortiselaw08_MatchExpands.f
  by_cases h0 : (l.length : Int) > 300
  · simp only [if_pos h0]
    exact Ev.step (f := fun k => (mortiselaw08_live.f k).bind fun t => some t) (fun k => rfl) liveSome_ev
  · simp only [if_neg h0]
    by_cases h1 : lim > 100000
    · refine Ev.step (f := fun k => (mortiselaw08_live.f k).bind fun t => some t) (fun k => ?_) liveSome_ev
      simp only [mortiselaw08_MatchExpands.j0]
      rw [if_pos (decide_eq_true h1)]
    · refine Ev.step (f := fun k => (match_Expand.f k l lim).bind fun bt152 => ((mortiseref08_Expand.f k l lim).bind fun bt154 => (if bt152.1.toList = bt154.1.toList then (if bt152.2 = bt154.2 then ((mortiselaw08_live.f k).bind fun t156 => (some t156)) else (some false)) else (some false)))) (fun k => ?_) ?_
      · simp only [mortiselaw08_MatchExpands.j0]
        rw [if_neg (by simpa using h1)]
      · refine Ev.bind (expand_ev lim l (by omega)) (Ev.bind (refExpand_ev lim l (by omega)) ?_)
        refine Ev.congr (fun _ => ?_) liveSome_ev
        rw [if_pos rfl, if_pos rfl]
end Go.Proofs.Ytgalimhogolbjaa.Pure
namespace Go.Proofs.Ytgalimhogolbjaa.matchExpands
open Go.ChangeShapes Go.WideShapes Go.ChangeAt Go.RowKit
open Go.ChangeMaps (open_string shut_string)
theorem own : ownKnob Try.prog.godebug = none := by kernel_rfl
theorem laidOut : laidOutB Try.prog = true := by kernel_rfl
set_option maxRecDepth 100000 in
theorem lifted (os : Os) (started : os.Started) (H : Type) (enc : TypeId × Value → H) :
    ReturnsInHanded {} Try.checked os 3 .any (Rows.matchExpandsSpec.pre6 enc Try.prog Try.f3 Rows.matchExpandsRow.domain false) (Rows.matchExpandsSpec.post enc Try.prog Try.f3 false true false false) := by
  refine returnsInHanded_of_change_sized (C := Try.checked) own started (by kernel_rfl) Try.func3
    (ChangeSpec.witness6 (enc := enc) (C := Try.checked) false ⟨#[], #[.slice none 0 0, .int .i64 0], []⟩ 8 (by kernel_rfl) (by kernel_rfl) (by kernel_rfl) (by kernel_rfl)) ?_
  intro W base args ds gs before hval0 hW hcnd hsz0 _
  have hval : ∀ (j : Nat) t v, Try.f3.params[j]? = some t → args[j]? = some v → Value.okWide Try.prog W .any base t v := hval0
  have hW' := hW
  obtain ⟨p, q, hA0, hV, rfl, hfz, hnd⟩ := hW
  have hA : DataW.TrodAll enc Try.prog W 0 (fun _ => true) true Try.f3.params.toList args.toList ds p := hA0
  rw [Try.params3] at hA hval
  obtain ⟨v0, vs0, d0, ds0, p0, q0, hargs, rfl, rfl, h0, r0⟩ := trodAll_cons hA
  obtain ⟨v1, vs1, d1, ds1, p1, q1, rfl, rfl, rfl, h1, r1⟩ := trodAll_cons r0
  obtain ⟨rfl, rfl, rfl⟩ := trodAll_nil r1
  obtain rfl : args = #[v0, v1] := by cases args; simp_all
  obtain ⟨rfl, rfl⟩ := trodVars_none hV
  obtain ⟨a0, len0, cap0, rfl⟩ := okWide_slice Try.underlying22 (hval 0 22 v0 rfl rfl)
  have k0 := h0
  have lt0 : ∀ x ∈ p0, x.block < W.heap.size := by obtain ⟨m, hm⟩ := k0; exact DataW.trod_lt m _ _ _ hm
  obtain ⟨fuel0, hf0⟩ := h0
  obtain ⟨l0, rfl, hc0, hr0, _⟩ := Fnd.open_toks hf0
  obtain ⟨a1, rfl, rfl, rfl, w1⟩ := open_int Try.underlying3 (hval 1 3 v1 rfl rfl) h1
  obtain ⟨k, hk⟩ := Pure.MatchExpands l0 a1
  clear hA0 hval0 hsz0
  refine (PMatchAll.mortiselaw08_MatchExpands.calls k a0 cap0 l0 a1 true W hr0 hc0 hk).mono fun e W' ⟨he, bel⟩ => ?_
  subst he
  exact ⟨_, rfl, _, _, _, [], _, [], hW', trodAll_mk1 (shut_bool Try.underlying4 _), (trodAll_cons_mk (Below.trod laidOut (by kernel_rfl) (of_decide_eq_true (by kernel_rfl)) k0 bel lt0) (trodAll_cons_mk (shut_int Try.underlying3 w1) trodAll_mk0)), rfl, bel.frame _, fun h => by cases h⟩
theorem over : Rows.matchExpandsRow.holds Try.pinned (OpenSpec.ofChange Rows.matchExpandsSpec) :=
  OpenClaim.holds_of_wide 3 Try.f3 rfl rfl rfl rfl rfl rfl rfl ⟨rfl, rfl, rfl, rfl, rfl⟩ rfl rfl rfl rfl rfl (by kernel_rfl) Try.func3 (by kernel_rfl)
    (of_decide_eq_true (by kernel_rfl)) (by unfold Func.isWrapper; first | (rw [if_pos (by decide +kernel)]; kernel_rfl) | (rw [if_neg (by decide +kernel)]; exact ⟨rfl, rfl⟩))
    (fun os started H enc _ => lifted os started H enc)
theorem proved : Rows.MatchExpandsSaid := over
#print axioms proved
end Go.Proofs.Ytgalimhogolbjaa.matchExpands
namespace Go.Proofs.Ytgalimhogolbjaa
/-- The row, under a short name, for the claim. -/
theorem matchExpands_holds : Rows.MatchExpandsSaid := matchExpands.proved
end Go.Proofs.Ytgalimhogolbjaa
