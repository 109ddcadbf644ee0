/- Walks of the finder's small functions: the three bytes at a place; how far two places go alike. -/
import Derived.Test.YtgalimhogolbjaaPMatchAllx0
import Derived.DeepKeys4
import Derived.WideKeyEntry
import Derived.Maps.Keyed
import Derived.Maps.AppendAt
import Derived.Lib.Hide
import Derived.Outline
import Derived.StillTailTactics
namespace Go.Proofs.Ytgalimhogolbjaa.Fnd
open Go Go.RowKit Go.Proofs.YtgalimhogolbjaaW.PrintWords Go.Proofs.YtgalimhogolbjaaW.PrintLast Go.Proofs.YtgalimhogolbjaaW.PrintMore
set_option linter.unusedVariables false
set_option linter.unusedSimpArgs false

theorem laidOut : laidOutB Try.prog = true := by kernel_rfl
theorem rowK : (54 : TypeId) < Try.prog.types.size := of_decide_eq_true (by kernel_rfl)
theorem wideK : (match Try.prog.underlying 54 with | some (.array _ _) | some (.struct _) => true | _ => false) = true := by rw [Try.underlying54]
theorem lawK : WideMaps.KeyLaw Try.prog 54 := deep_law_laid laidOut (m := 2) (by omega) rowK (by kernel_rfl) wideK
/-- Three bytes as a map's key. -/
def keyV (a b c : Int) : Value := .agg #[.int .u8 a, .int .u8 b, .int .u8 c]
theorem keyOf_keyV (a b c : Int) (ha : 0 ≤ a ∧ a ≤ 255) (hb : 0 ≤ b ∧ b ≤ 255) (hc : 0 ≤ c ∧ c ≤ 255) : ∃ l, keyOf Try.prog 54 (keyV a b c) = some l := by
  have wf : ∀ n : Int, 0 ≤ n ∧ n ≤ 255 → (Lit.int .u8 n).wf = true := fun n h => by
    show (decide (IntKind.u8.min ≤ n) && decide (n ≤ IntKind.u8.max)) = true
    have h1 : IntKind.u8.min = 0 := rfl
    have h2 : IntKind.u8.max = 255 := rfl
    simp only [Bool.and_eq_true, decide_eq_true_eq]
    omega
  have kt : Try.prog.keyType 54 = true := by kernel_rfl
  unfold keyOf
  rw [Try.underlying54]
  have c54 : Try.prog.cellsOf 54 = 3 := by kernel_rfl
  have c5 : Try.prog.cellsOf 5 = 1 := by kernel_rfl
  have hf : Value.formed Try.prog 54 (keyV a b c) = true := by
    simp [Value.formed, keyV, Try.underlying54, c54]
  obtain ⟨m, hm⟩ : ∃ m, Try.prog.types.size + 1 = m + 2 := ⟨Try.prog.types.size - 1, by have h54 : 54 < Try.prog.types.size := rowK; omega⟩
  have one : ∀ n : Int, (0 ≤ n ∧ n ≤ 255) → Try.prog.keyLits (m + 1) 5 [.int .u8 n] = some [.int .u8 n] := fun n h => by
    simp [Program.keyLits, Try.underlying5, wf n h]
  have all : Try.prog.keyLits (m + 2) 54 [.int .u8 a, .int .u8 b, .int .u8 c] = some [.int .u8 a, .int .u8 b, .int .u8 c] := by
    unfold Program.keyLits
    rw [Try.underlying54]
    simp only [c54, c5]
    simp [List.range, List.range.loop, one a ha, one b hb, one c hc]
  refine ⟨.string (keyBytes [.int .u8 a, .int .u8 b, .int .u8 c]), ?_⟩
  simp only [kt, hf, Bool.true_and]
  rw [hm]
  show Option.map _ (Try.prog.keyLits (m + 2) 54 [.int .u8 a, .int .u8 b, .int .u8 c]) = _
  rw [all]
  rfl
theorem keyV_inj {a b c a' b' c' : Int} (h : keyV a b c = keyV a' b' c') : a = a' ∧ b = b' ∧ c = c' := by
  simpa [keyV] using h

/-! ## the three bytes at a place -/
/-- The key that stands at place i. -/
def kAt (s : ByteArray) (i : Nat) : Value := keyV (bt s (i : Int)) (bt s ((i + 1 : Nat) : Int)) (bt s ((i + 2 : Nat) : Int))
set_option maxHeartbeats 2000000 in
set_option maxRecDepth 100000 in
theorem at_any (g : Nat) (s : ByteArray) (i : Nat) (w : World) (h0 : w.cell? ⟨g, 0, none⟩ = some (.string s)) (hi : i + 2 < s.size) (hs : s.size ≤ 140737488351232) :
    Calls Try.prog 26 #[.pointer (some ⟨g, 0, none⟩), .int .i64 i] w fun e w' => e = .returned (kAt s i) ∧ Below w.heap.size w w' := by
  have hb : g < w.heap.size := World.block_lt_of_cell? w _ h0
  go_enter Try.func26, Try.ntmps26
  go_wp2
  have hB1 := below_alloc (Below.refl w.heap.size w) (Obj.cells #[Value.int IntKind.u8 0, Value.int IntKind.u8 0, Value.int IntKind.u8 0] 54)
  have hc1 : (w.alloc (Obj.cells #[Value.int IntKind.u8 0, Value.int IntKind.u8 0, Value.int IntKind.u8 0] 54)).heap[w.heap.size]? = some (Obj.cells #[Value.int IntKind.u8 0, Value.int IntKind.u8 0, Value.int IntKind.u8 0] 54 (0, 0)) := (MapKept.heap_alloc w _).1
  have h1 := pw_cell_below hB1 h0
  have c0 : ∀ j : Nat, j < 3 → (w.alloc (Obj.cells #[Value.int IntKind.u8 0, Value.int IntKind.u8 0, Value.int IntKind.u8 0] 54)).cell? ⟨w.heap.size, j, none⟩ = some (.int .u8 0) := fun j hj => by
    simp only [World.cell?, hc1]
    match j, hj with
    | 0, _ => rfl
    | 1, _ => rfl
    | 2, _ => rfl
  have f0 : ∀ j : Nat, (w.alloc (Obj.cells #[Value.int IntKind.u8 0, Value.int IntKind.u8 0, Value.int IntKind.u8 0] 54)).frozen? ⟨w.heap.size, j, none⟩ = false := fun j => by
    simp only [World.frozen?]
    rw [hc1]
    simp
  generalize w.alloc (Obj.cells #[Value.int IntKind.u8 0, Value.int IntKind.u8 0, Value.int IntKind.u8 0] 54) = w1 at *
  have c00 := c0 0 (by decide)
  have c01 := c0 1 (by decide)
  have c02 := c0 2 (by decide)
  have f00 := f0 0
  have f01 := f0 1
  have f02 := f0 2
  clear c0 f0
  have HC := Aside0.mk hc1
  clear hc1
  have i1 : 0 ≤ (i : Int) := by omega
  have i2 : (i : Int) + 2 < s.size := by omega
  have l0 : i < s.size := by omega
  have l1 : i + 1 < s.size := by omega
  have l2 : i + 2 < s.size := by omega
  have e1 : IntKind.i64.wrap ((i : Int) + 1) = (i : Int) + 1 := by rw [IntKind.wrap_i64]; omega
  have e2 : IntKind.i64.wrap ((i : Int) + 2) = (i : Int) + 2 := by rw [IntKind.wrap_i64]; omega
  have n1 : ((i : Int) + 1).toNat = i + 1 := by omega
  have n2 : ((i : Int) + 2).toNat = i + 2 := by omega
  have p1 : 0 ≤ (i : Int) + 1 := by omega
  have p2 : 0 ≤ (i : Int) + 2 := by omega
  have q1 : (i : Int) + 1 < s.size := by omega
  go_still_tail 21, (by kernel_rfl)
  change wpList _ _ _ _ _ w1.drew
  go_wp2
  have z : Value.agg #[.int .u8 (s[i].toNat : Int), .int .u8 (s[i + 1].toNat : Int), .int .u8 (s[i + 2].toNat : Int)] = kAt s i := by
    simp only [kAt, keyV, bt, Int.toNat_natCast, l0, l1, l2, dif_pos]
  refine bodyPost_ret (results_cell_row rfl _ _ w.heap.size 54 #[.int .u8 (s[i].toNat : Int), .int .u8 (s[i + 1].toNat : Int), .int .u8 (s[i + 2].toNat : Int)] (0, 0) _ rfl (blk_drew (blk_put (blk_put (blk_put HC.out 0 _ rfl) 1 _ rfl) 2 _ rfl)) Try.underlying54 rfl rfl) rfl ?_
  refine ⟨by rw [← z], ?_⟩
  exact below_drew (((hB1.setCell (p := ⟨w.heap.size, 0, none⟩) (Nat.le_refl _) _).setCell (p := ⟨w.heap.size, 1, none⟩) (Nat.le_refl _) _).setCell (p := ⟨w.heap.size, 2, none⟩) (Nat.le_refl _) _)

/-! ## how far two places go alike -/
end Go.Proofs.Ytgalimhogolbjaa.Fnd
