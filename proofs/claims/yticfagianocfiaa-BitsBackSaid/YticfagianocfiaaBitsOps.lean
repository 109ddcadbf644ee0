/- A slice of operations that came in, opened: numbers and texts that memory holds. -/
import Derived.Test.YticfagianocfiaaBitsW
import Derived.Deep.Slices
import Derived.ChangeArms
import Derived.OpenShut
set_option linter.unusedVariables false
namespace Go.Proofs.Yticfagianocfiaa.SX
open Go.Proofs Go.Proofs.Yticfagianocfiaa Go.RowKit Go.ChangeShapes Go.WideShapes Go.Deep
theorem cells_op : Try.prog.cellsOf 44 = 4 := by kernel_rfl
theorem cells_1 : Try.prog.cellsOf 3 = 1 ∧ Try.prog.cellsOf 27 = 1 ∧ Try.prog.cellsOf 9 = 1 := ⟨by kernel_rfl, by kernel_rfl, by kernel_rfl⟩
structure OpV where
  d : Int
  v : Int
  n : Int
  t : ByteArray
instance : Inhabited OpV := ⟨⟨0, 0, 0, ByteArray.empty⟩⟩
theorem open_ops {H : Type} {enc : TypeId × Value → H} {W : World} {base : Nat} {spare : Nat → Bool} {held : Bool} {fuel : Nat} {a : Option Addr} {len cap : Nat} {x : DataW H × List MemPlace}
    (h : DataW.trod enc Try.prog W base spare held fuel 34 [.slice a len cap] = some x) :
    len ≤ cap ∧ ∃ o : Nat → OpV, OpsAt W a len (fun i => (o i).d) (fun i => (o i).v) (fun i => (o i).n) (fun i => (o i).t) := by
  rcases open_slice Try.underlying34 h with ⟨hcs, _⟩ | ⟨ad, n, c, m, f, D, Pl, hcs, _, hl, hm, hmm, _, hx⟩
  · simp at hcs
    obtain ⟨rfl, rfl, rfl⟩ := hcs
    exact ⟨Nat.le_refl _, fun _ => default, ⟨fun i hi => absurd hi (Nat.not_lt_zero i), fun i hi => absurd hi (Nat.not_lt_zero i)⟩⟩
  · simp at hcs
    obtain ⟨rfl, rfl, rfl⟩ := hcs
    have hlm : len ≤ m := by rw [hmm]; split <;> omega
    have each : ∀ i, i < len → ∃ t : OpV, (0 ≤ t.v ∧ t.v < 4294967296) ∧ W.cell? (ad.add (i * 4)) = some (.int .i64 t.d) ∧ W.cell? (ad.add (i * 4 + 1)) = some (.int .u32 t.v) ∧ W.cell? (ad.add (i * 4 + 2)) = some (.int .i64 t.n) ∧ W.cell? (ad.add (i * 4 + 3)) = some (.string t.t) := by
      intro i hi
      obtain ⟨cs', h1, h2⟩ := hx i (by omega)
      rw [cells_op] at h1
      obtain ⟨_, hlen, hcell⟩ := World.cells?_some h1
      obtain ⟨xs, k, hk, hxy, _, hxl, hf⟩ := DataW.trod_struct Try.underlying44 h2
      match xs, hxl, cs', hlen with
      | [y0, y1, y2, y3], _, [v0, v1, v2, v3], _ =>
        have g0 := hf 0 _ rfl
        have g1 := hf 1 _ rfl
        have g2 := hf 2 _ rfl
        have g3 := hf 3 _ rfl
        simp [cells_1] at g0 g1 g2 g3
        obtain ⟨n0, e0, _, _⟩ := DataW.trod_int Try.underlying3 g0
        obtain ⟨n1, e1, _, w1⟩ := DataW.trod_int Try.underlying27 g1
        obtain ⟨n2, e2, _, _⟩ := DataW.trod_int Try.underlying3 g2
        obtain ⟨s3, e3, _, _⟩ := DataW.trod_string Try.underlying9 g3
        simp at e0 e1 e2 e3
        subst e0 e1 e2 e3
        have c0 := hcell 0 (by omega)
        have c1 := hcell 1 (by omega)
        have c2 := hcell 2 (by omega)
        have c3 := hcell 3 (by omega)
        rw [Deep.add_add] at c0 c1 c2 c3
        refine ⟨⟨n0, n1, n2, s3⟩, ?_, by simpa using c0, by simpa using c1, by simpa using c2, by simpa using c3⟩
        simp only [Lit.wf, Bool.and_eq_true, decide_eq_true_eq] at w1
        have h1 : (IntKind.u32).min = 0 := by decide
        have h2 : (IntKind.u32).max = 4294967295 := by decide
        dsimp only
        omega
    obtain ⟨T, hT⟩ := choose_lt each
    exact ⟨hl, T, ⟨fun i hi => ⟨ad, rfl, (hT i hi).2⟩, fun i hi => (hT i hi).1⟩⟩
end Go.Proofs.Yticfagianocfiaa.SX
