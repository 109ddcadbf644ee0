/- The law BitsParts returns true for every input, and its arguments read as they did. -/
import Derived.Test.YticfagianocfiaaRows
import Derived.Test.YticfagianocfiaaBitsPt
import Derived.Deep.Slices
import Derived.ChangeArms
import Derived.WalkKit
import Derived.ProofKit
import Derived.OpenShut
import Derived.ShutString
import Derived.ChangeOld
import Derived.Below
import Derived.SizedLaws
set_option linter.unusedVariables false
namespace Go.Proofs.Yticfagianocfiaa.bitsParts
open Go.ChangeShapes Go.WideShapes Go.ChangeAt Go.RowKit
open Go.ChangeMaps (open_string shut_string)
theorem own : ownKnob Try.prog.godebug = none := by kernel_rfl
theorem laidOut : laidOutB Try.prog = true := by kernel_rfl
theorem cells_1 : Try.prog.cellsOf 3 = 1 ∧ Try.prog.cellsOf 9 = 1 := ⟨by kernel_rfl, by kernel_rfl⟩
theorem cells_part : Try.prog.cellsOf 23 = 4 := by kernel_rfl
/-- a part that came in -/
theorem open_part {H : Type} {enc : TypeId × Value → H} {W : World} {base b0 : Nat} {spare : Nat → Bool} {held : Bool} {v : Value} {d : DataW H} {p : List MemPlace} {r : Reach}
    (hv : Value.okWide Try.prog W r b0 23 v) (h : DataW.Trod enc Try.prog W base spare held 23 v d p) :
    ∃ (c : ByteArray) (k a b : Int) (y1 y2 y3 : DataW H), v = .agg #[.string c, .int .i64 k, .int .i64 a, .int .i64 b] ∧ d = .agg [.lit (.string c.data.toList), y1, y2, y3] := by
  obtain ⟨cs, rfl, hsz⟩ := okWide_struct Try.underlying23 hv
  rw [cells_part] at hsz
  obtain ⟨fuel, hf⟩ := h
  obtain ⟨xs, k, hk, hxy, _, hxl, hff⟩ := DataW.trod_struct Try.underlying23 hf
  have hcs : (Value.agg cs).cells.toList = cs.toList := rfl
  rw [hcs] at hff
  have hlen : cs.toList.length = 4 := by simpa using hsz
  obtain ⟨l, hl⟩ : ∃ l, cs.toList = l := ⟨_, rfl⟩
  rw [hl] at hff hlen
  match xs, hxl, l, hlen with
  | [y0, y1, y2, y3], _, [v0, v1, v2, v3], _ =>
    have g0 := hff 0 _ rfl
    have g1 := hff 1 _ rfl
    have g2 := hff 2 _ rfl
    have g3 := hff 3 _ rfl
    simp [cells_1] at g0 g1 g2 g3
    obtain ⟨s0, e0, q0, _⟩ := DataW.trod_string Try.underlying9 g0
    obtain ⟨n1, e1, _, _⟩ := DataW.trod_int Try.underlying3 g1
    obtain ⟨n2, e2, _, _⟩ := DataW.trod_int Try.underlying3 g2
    obtain ⟨n3, e3, _, _⟩ := DataW.trod_int Try.underlying3 g3
    simp at e0 e1 e2 e3
    subst e0 e1 e2 e3
    refine ⟨s0, n1, n2, n3, y1.1, y2.1, y3.1, ?_, ?_⟩
    · congr 1
      apply Array.toList_inj.1
      rw [hl]
    · simp only [Prod.mk.injEq] at hxy
      rw [hxy.1]
      simp [q0]
set_option maxRecDepth 100000 in
theorem lifted (os : Os) (started : os.Started) (H : Type) (enc : TypeId × Value → H) :
    ReturnsInHanded {} Try.checked os 3 .any (Rows.bitsPartsSpec.pre6 enc Try.prog Try.f3 Rows.bitsPartsRow.domain false) (Rows.bitsPartsSpec.post enc Try.prog Try.f3 false true false false) := by
  refine returnsInHanded_of_change_sized (C := Try.checked) own started (by kernel_rfl) Try.func3
    (ChangeSpec.witness6 (enc := enc) (C := Try.checked) false ⟨#[], #[.agg #[.string ByteArray.empty, .int .i64 0, .int .i64 0, .int .i64 0]], []⟩ 8 (by kernel_rfl) (by kernel_rfl) (by kernel_rfl) (by kernel_rfl)) ?_
  intro W base args ds gs before hval0 hW hcnd hsz0 _
  have hsz : (DataW.weightsEach Try.prog (Try.f3.params.toList ++ Rows.bitsPartsSpec.plain.varTypes Try.prog) (ds ++ gs)).all (· ≤ reachBytes) = true := hsz0
  have hval : ∀ (j : Nat) t v, Try.f3.params[j]? = some t → args[j]? = some v → Value.okWide Try.prog W .any base t v := hval0
  have hW' := hW
  obtain ⟨p, q, hA0, hV, rfl, hfz, hnd⟩ := hW
  have hA : DataW.TrodAll enc Try.prog W 0 (fun _ => true) true Try.f3.params.toList args.toList ds p := hA0
  rw [Try.params3] at hA hval hsz
  obtain ⟨v0, vs0, d0, ds0, p0, q0, hargs, rfl, rfl, h0, r0⟩ := trodAll_cons hA
  obtain ⟨rfl, rfl, rfl⟩ := trodAll_nil r0
  obtain rfl : args = #[v0] := by cases args; simp_all
  obtain ⟨rfl, rfl⟩ := trodVars_none hV
  have k0 := h0
  have lt0 : ∀ x ∈ p0, x.block < W.heap.size := by obtain ⟨m, hm⟩ := k0; exact DataW.trod_lt m _ _ _ hm
  obtain ⟨c, sk, a, b, y1, y2, y3, rfl, rfl⟩ := open_part (hval 0 23 v0 rfl rfl) h0
  have w0 : c.size ≤ 140737488355328 := by
    have z := List.all_eq_true.1 hsz _ (DataW.weights_mem_each (j := 0) (t := 23) rfl rfl c.data.toList.length (by simp [DataW.weights, Try.underlying23, DataW.weightsEach]))
    have z2 : c.data.toList.length ≤ reachBytes := by simpa using z
    rw [Array.length_toList] at z2
    exact Nat.le_trans z2 (by decide)
  clear hA0 hval0 hsz0 hsz
  refine (SX.parts_calls c sk a b w0).mono fun e W' ⟨he, bel⟩ => ?_
  subst he
  exact ⟨_, rfl, _, _, _, [], _, [], hW', trodAll_mk1 (shut_bool Try.underlying4 _), (trodAll_cons_mk (Below.trod laidOut (by kernel_rfl) (of_decide_eq_true (by kernel_rfl)) k0 bel lt0) trodAll_mk0), rfl, bel.frame _, fun h => by cases h⟩
theorem over : Rows.bitsPartsRow.holds Try.pinned (OpenSpec.ofChange Rows.bitsPartsSpec) :=
  OpenClaim.holds_of_wide 3 Try.f3 rfl rfl rfl rfl rfl rfl rfl ⟨rfl, rfl, rfl, rfl, rfl⟩ rfl rfl rfl rfl rfl (by kernel_rfl) Try.func3 (by kernel_rfl)
    (of_decide_eq_true (by kernel_rfl)) (by unfold Func.isWrapper; first | (rw [if_pos (by decide +kernel)]; kernel_rfl) | (rw [if_neg (by decide +kernel)]; exact ⟨rfl, rfl⟩))
    (fun os started H enc _ => lifted os started H enc)
theorem proved : Rows.BitsPartsSaid := over
end Go.Proofs.Yticfagianocfiaa.bitsParts
namespace Go.Proofs.Yticfagianocfiaa
/-- The row, under a short name, for the claim. -/
theorem bitsParts_holds : Rows.BitsPartsSaid := bitsParts.proved
end Go.Proofs.Yticfagianocfiaa
