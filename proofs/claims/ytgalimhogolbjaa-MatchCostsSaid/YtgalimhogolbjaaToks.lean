/- A slice of tokens that came in, opened: a list of tokens that memory holds. -/
import Derived.Test.YtgalimhogolbjaaPMatchAllx0
import Derived.Deep.Slices
namespace Go.Proofs.Ytgalimhogolbjaa.Fnd
open Go Go.RowKit Go.Proofs.Ytgalimhogolbjaa.PMatchAll Go.Proofs.YtgalimhogolbjaaW.PrintWords Go.Proofs.YtgalimhogolbjaaW.PrintLast Go.Proofs.YtgalimhogolbjaaW.PrintMore Go.ChangeShapes Go.WideShapes Go.Deep

instance : Inhabited S37 := ⟨⟨0, 0, 0⟩⟩
theorem cells_tok : Try.prog.cellsOf 37 = 3 := by kernel_rfl
theorem cells_u8 : Try.prog.cellsOf 5 = 1 := by kernel_rfl
theorem cells_int : Try.prog.cellsOf 3 = 1 := by kernel_rfl
theorem open_toks {H : Type} {enc : TypeId × Value → H} {W : World} {base : Nat} {spare : Nat → Bool} {held : Bool} {fuel : Nat} {a : Option Addr} {len cap : Nat} {x : DataW H × List MemPlace}
    (h : DataW.trod enc Try.prog W base spare held fuel 22 [.slice a len cap] = some x) :
    ∃ l : List S37, l.length = len ∧ len ≤ cap ∧ Kd.C k37 W a len l ∧ ∀ t ∈ l, 0 ≤ t.f0 ∧ t.f0 ≤ 255 := by
  rcases open_slice Try.underlying22 h with ⟨hcs, _⟩ | ⟨ad, n, c, m, f, D, Pl, hcs, _, hl, hm, hmm, _, hx⟩
  · simp at hcs
    obtain ⟨rfl, rfl, rfl⟩ := hcs
    exact ⟨[], rfl, Nat.le_refl _, ⟨rfl, by omega, fun h0 => absurd h0 (Nat.lt_irrefl 0)⟩, fun t ht => by simp at ht⟩
  · simp at hcs
    obtain ⟨rfl, rfl, rfl⟩ := hcs
    have hlm : len ≤ m := by rw [hmm]; split <;> omega
    have each : ∀ i, i < len → ∃ t : S37, (0 ≤ t.f0 ∧ t.f0 ≤ 255) ∧ W.cell? (ad.add (i * 3)) = some (.int .u8 t.f0) ∧ W.cell? (ad.add (i * 3 + 1)) = some (.int .i64 t.f1) ∧ W.cell? (ad.add (i * 3 + 2)) = some (.int .i64 t.f2) := by
      intro i hi
      obtain ⟨cs', h1, h2⟩ := hx i (by omega)
      rw [cells_tok] at h1
      obtain ⟨_, hlen, hcell⟩ := World.cells?_some h1
      obtain ⟨xs, k, hk, hxy, _, hxl, hf⟩ := DataW.trod_struct Try.underlying37 h2
      match xs, hxl, cs', hlen with
      | [y0, y1, y2], _, [v0, v1, v2], _ =>
        have g0 := hf 0 _ rfl
        have g1 := hf 1 _ rfl
        have g2 := hf 2 _ rfl
        simp [cells_u8, cells_int] at g0 g1 g2
        obtain ⟨n0, e0, _, w0⟩ := DataW.trod_int Try.underlying5 g0
        obtain ⟨n1, e1, _, _⟩ := DataW.trod_int Try.underlying3 g1
        obtain ⟨n2, e2, _, _⟩ := DataW.trod_int Try.underlying3 g2
        simp at e0 e1 e2
        subst e0 e1 e2
        have c0 := hcell 0 (by omega)
        have c1 := hcell 1 (by omega)
        have c2 := hcell 2 (by omega)
        rw [Deep.add_add] at c0 c1 c2
        refine ⟨⟨n0, n1, n2⟩, ?_, by simpa using c0, by simpa using c1, by simpa using c2⟩
        simp only [Lit.wf, Bool.and_eq_true, decide_eq_true_eq] at w0
        have h1 : (IntKind.u8).min = 0 := by decide
        have h2 : (IntKind.u8).max = 255 := by decide
        dsimp only
        omega
    obtain ⟨T, hT⟩ := choose_lt each
    refine ⟨(List.range len).map T, by simp, hl, ⟨by simp, by unfold maxLen at hm; omega, fun _ => ⟨ad, rfl, fun j p hj => ?_⟩⟩, fun t ht => ?_⟩
    · rw [List.getElem?_map] at hj
      obtain ⟨i, hi, rfl⟩ := Option.map_eq_some_iff.1 hj
      obtain ⟨hlt, rfl⟩ := List.getElem?_eq_some_iff.1 hi
      rw [List.length_range] at hlt
      simp only [List.getElem_range] at *
      obtain ⟨_, q0, q1, q2⟩ := hT j hlt
      refine ⟨[.int .u8 (T j).f0, .int .i64 (T j).f1, .int .i64 (T j).f2], rfl, k37_mk W (T j), fun i u hu => ?_⟩
      have hsz : (k37).sz = 3 := rfl
      rw [hsz]
      match i, hu with
      | 0, hu => injection hu with hu; rw [← hu]; exact q0
      | 1, hu => injection hu with hu; rw [← hu]; exact q1
      | 2, hu => injection hu with hu; rw [← hu]; exact q2
    · obtain ⟨i, hi, rfl⟩ := List.mem_map.1 ht
      exact (hT i (List.mem_range.1 hi)).1
end Go.Proofs.Ytgalimhogolbjaa.Fnd
