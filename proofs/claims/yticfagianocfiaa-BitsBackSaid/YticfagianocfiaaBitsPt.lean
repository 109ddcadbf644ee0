import Derived.Test.YticfagianocfiaaBitsR
set_option linter.unusedVariables false
set_option linter.unusedSimpArgs false
namespace Go.Proofs.Yticfagianocfiaa.SX
open Go.Proofs Go.Proofs.Yticfagianocfiaa Go.RowKit
set_option maxRecDepth 1000000
/-! the law BitsParts -/
noncomputable def pT (k a b : Int) (s : List Nat) (ch : List Bool) : Option (CR × PM × G) := callN bT (orP lP rP) 1000 20 .no 3 [.agg [.str true s, .int true .i64 k, .int true .i64 a, .int true .i64 b]] ⟨.e, 1000, True, ch⟩
noncomputable def pc_g1 (k a b : Int) (s : List Nat) : Prop := ilt a (0 : Int) = true ∧ ilt a (0 : Int) = true ∧ ilt a (0 : Int) = true ∧ True
noncomputable def pc_g2 (k a b : Int) (s : List Nat) : Prop := ilt b (0 : Int) = true ∧ ilt b (0 : Int) = true ∧ ilt b (0 : Int) = true ∧ ilt a (0 : Int) = false ∧ ilt a (0 : Int) = false ∧ ilt a (0 : Int) = false ∧ True
noncomputable def pc_g3 (k a b : Int) (s : List Nat) : Prop := ilt (16 : Int) a = true ∧ ilt (16 : Int) a = true ∧ ilt (16 : Int) a = true ∧ ilt b (0 : Int) = false ∧ ilt b (0 : Int) = false ∧ ilt b (0 : Int) = false ∧ ilt a (0 : Int) = false ∧ ilt a (0 : Int) = false ∧ ilt a (0 : Int) = false ∧ True
noncomputable def pc_g4 (k a b : Int) (s : List Nat) : Prop := ilt (16 : Int) b = true ∧ ilt (16 : Int) b = true ∧ ilt (16 : Int) b = true ∧ ilt (16 : Int) a = false ∧ ilt (16 : Int) a = false ∧ ilt (16 : Int) a = false ∧ ilt b (0 : Int) = false ∧ ilt b (0 : Int) = false ∧ ilt b (0 : Int) = false ∧ ilt a (0 : Int) = false ∧ ilt a (0 : Int) = false ∧ ilt a (0 : Int) = false ∧ True
noncomputable def pc_g5 (k a b : Int) (s : List Nat) : Prop := ilt k (0 : Int) = true ∧ ilt k (0 : Int) = true ∧ ilt k (0 : Int) = true ∧ ilt (16 : Int) b = false ∧ ilt (16 : Int) b = false ∧ ilt (16 : Int) b = false ∧ ilt (16 : Int) a = false ∧ ilt (16 : Int) a = false ∧ ilt (16 : Int) a = false ∧ ilt b (0 : Int) = false ∧ ilt b (0 : Int) = false ∧ ilt b (0 : Int) = false ∧ ilt a (0 : Int) = false ∧ ilt a (0 : Int) = false ∧ ilt a (0 : Int) = false ∧ True
noncomputable def pc_g6 (k a b : Int) (s : List Nat) : Prop := ilt (32 : Int) k = true ∧ ilt k (0 : Int) = false ∧ ilt k (0 : Int) = false ∧ ilt k (0 : Int) = false ∧ ilt (16 : Int) b = false ∧ ilt (16 : Int) b = false ∧ ilt (16 : Int) b = false ∧ ilt (16 : Int) a = false ∧ ilt (16 : Int) a = false ∧ ilt (16 : Int) a = false ∧ ilt b (0 : Int) = false ∧ ilt b (0 : Int) = false ∧ ilt b (0 : Int) = false ∧ ilt a (0 : Int) = false ∧ ilt a (0 : Int) = false ∧ ilt a (0 : Int) = false ∧ True
noncomputable def pc_qa1 (k a b : Int) (s : List Nat) : Prop := (nat_lit 59 = nat_lit 59 ∧ false = false) ∧ fitN (0 : Int) (wr IntKind.i64 (Int.add a b)) s = false ∧ okN (wr IntKind.i64 (Int.add a b)) = true ∧ ((0 : Int) ≤ (0 : Int) ∧ (0 : Int) ≤ (8 : Int) * ↑(List.length s) ∧ List.length s ≤ (140737488355328 : Nat) ∧ ∀ (x : Nat), x ∈ s → x < (256 : Nat)) ∧ (nat_lit 59 = nat_lit 59 ∧ false = false) ∧ fitN (0 : Int) k s = false ∧ okN k = true ∧ ((0 : Int) ≤ (0 : Int) ∧ (0 : Int) ≤ (8 : Int) * ↑(List.length s) ∧ List.length s ≤ (140737488355328 : Nat) ∧ ∀ (x : Nat), x ∈ s → x < (256 : Nat)) ∧ (nat_lit 59 = nat_lit 59 ∧ false = false) ∧ fitN (0 : Int) k s = false ∧ okN k = true ∧ ((0 : Int) ≤ (0 : Int) ∧ (0 : Int) ≤ (8 : Int) * ↑(List.length s) ∧ List.length s ≤ (140737488355328 : Nat) ∧ ∀ (x : Nat), x ∈ s → x < (256 : Nat)) ∧ ilt (32 : Int) k = false ∧ ilt k (0 : Int) = false ∧ ilt k (0 : Int) = false ∧ ilt k (0 : Int) = false ∧ ilt (16 : Int) b = false ∧ ilt (16 : Int) b = false ∧ ilt (16 : Int) b = false ∧ ilt (16 : Int) a = false ∧ ilt (16 : Int) a = false ∧ ilt (16 : Int) a = false ∧ ilt b (0 : Int) = false ∧ ilt b (0 : Int) = false ∧ ilt b (0 : Int) = false ∧ ilt a (0 : Int) = false ∧ ilt a (0 : Int) = false ∧ ilt a (0 : Int) = false ∧ True
noncomputable def pc_qa2 (k a b : Int) (s : List Nat) : Prop := (nat_lit 59 = nat_lit 59 ∧ false = false) ∧ fitN (0 : Int) (wr IntKind.i64 (Int.add a b)) s = true ∧ okN (wr IntKind.i64 (Int.add a b)) = true ∧ ((0 : Int) ≤ (0 : Int) ∧ (0 : Int) ≤ (8 : Int) * ↑(List.length s) ∧ List.length s ≤ (140737488355328 : Nat) ∧ ∀ (x : Nat), x ∈ s → x < (256 : Nat)) ∧ (nat_lit 59 = nat_lit 59 ∧ false = false) ∧ fitN (0 : Int) k s = false ∧ okN k = true ∧ ((0 : Int) ≤ (0 : Int) ∧ (0 : Int) ≤ (8 : Int) * ↑(List.length s) ∧ List.length s ≤ (140737488355328 : Nat) ∧ ∀ (x : Nat), x ∈ s → x < (256 : Nat)) ∧ (nat_lit 59 = nat_lit 59 ∧ false = false) ∧ fitN (0 : Int) k s = false ∧ okN k = true ∧ ((0 : Int) ≤ (0 : Int) ∧ (0 : Int) ≤ (8 : Int) * ↑(List.length s) ∧ List.length s ≤ (140737488355328 : Nat) ∧ ∀ (x : Nat), x ∈ s → x < (256 : Nat)) ∧ ilt (32 : Int) k = false ∧ ilt k (0 : Int) = false ∧ ilt k (0 : Int) = false ∧ ilt k (0 : Int) = false ∧ ilt (16 : Int) b = false ∧ ilt (16 : Int) b = false ∧ ilt (16 : Int) b = false ∧ ilt (16 : Int) a = false ∧ ilt (16 : Int) a = false ∧ ilt (16 : Int) a = false ∧ ilt b (0 : Int) = false ∧ ilt b (0 : Int) = false ∧ ilt b (0 : Int) = false ∧ ilt a (0 : Int) = false ∧ ilt a (0 : Int) = false ∧ ilt a (0 : Int) = false ∧ True
noncomputable def pc_qb (k a b : Int) (s : List Nat) : Prop := (nat_lit 59 = nat_lit 59 ∧ false = false) ∧ fitN (Int.add (0 : Int) k) (wr IntKind.i64 (Int.add a b)) s = false ∧ okN (wr IntKind.i64 (Int.add a b)) = true ∧ ((0 : Int) ≤ Int.add (0 : Int) k ∧ Int.add (0 : Int) k ≤ (8 : Int) * ↑(List.length s) ∧ List.length s ≤ (140737488355328 : Nat) ∧ ∀ (x : Nat), x ∈ s → x < (256 : Nat)) ∧ (nat_lit 59 = nat_lit 59 ∧ false = false) ∧ fitN (0 : Int) k s = true ∧ okN k = true ∧ ((0 : Int) ≤ (0 : Int) ∧ (0 : Int) ≤ (8 : Int) * ↑(List.length s) ∧ List.length s ≤ (140737488355328 : Nat) ∧ ∀ (x : Nat), x ∈ s → x < (256 : Nat)) ∧ (nat_lit 59 = nat_lit 59 ∧ false = false) ∧ fitN (0 : Int) k s = true ∧ okN k = true ∧ ((0 : Int) ≤ (0 : Int) ∧ (0 : Int) ≤ (8 : Int) * ↑(List.length s) ∧ List.length s ≤ (140737488355328 : Nat) ∧ ∀ (x : Nat), x ∈ s → x < (256 : Nat)) ∧ ilt (32 : Int) k = false ∧ ilt k (0 : Int) = false ∧ ilt k (0 : Int) = false ∧ ilt k (0 : Int) = false ∧ ilt (16 : Int) b = false ∧ ilt (16 : Int) b = false ∧ ilt (16 : Int) b = false ∧ ilt (16 : Int) a = false ∧ ilt (16 : Int) a = false ∧ ilt (16 : Int) a = false ∧ ilt b (0 : Int) = false ∧ ilt b (0 : Int) = false ∧ ilt b (0 : Int) = false ∧ ilt a (0 : Int) = false ∧ ilt a (0 : Int) = false ∧ ilt a (0 : Int) = false ∧ True
noncomputable def pc_qc (k a b : Int) (s : List Nat) : Prop := ieq (Int.add (Int.add (0 : Int) k) (wr IntKind.i64 (Int.add a b))) (Int.add (Int.add (Int.add (0 : Int) k) a) b) = true ∧ ieq (Int.add (Int.add (0 : Int) k) (wr IntKind.i64 (Int.add a b))) (Int.add (Int.add (Int.add (0 : Int) k) a) b) = true ∧ ieq (↑(bitsAt s (Int.toNat (Int.add (0 : Int) k)) (Int.toNat (wr IntKind.i64 (Int.add a b))))) (wr IntKind.u32 (Int.add (↑(bitsAt s (Int.toNat (Int.add (0 : Int) k)) (Int.toNat a))) (wr IntKind.u32 (Int.mul (↑(bitsAt s (Int.toNat (Int.add (Int.add (0 : Int) k) a)) (Int.toNat b))) (pow2 (wr IntKind.u64 a) (IntKind.bits IntKind.u32)))))) = true ∧ ieq (↑(bitsAt s (Int.toNat (Int.add (0 : Int) k)) (Int.toNat (wr IntKind.i64 (Int.add a b))))) (wr IntKind.u32 (Int.add (↑(bitsAt s (Int.toNat (Int.add (0 : Int) k)) (Int.toNat a))) (wr IntKind.u32 (Int.mul (↑(bitsAt s (Int.toNat (Int.add (Int.add (0 : Int) k) a)) (Int.toNat b))) (pow2 (wr IntKind.u64 a) (IntKind.bits IntKind.u32)))))) = true ∧ ieq (↑(bitsAt s (Int.toNat (Int.add (0 : Int) k)) (Int.toNat (wr IntKind.i64 (Int.add a b))))) (wr IntKind.u32 (Int.add (↑(bitsAt s (Int.toNat (Int.add (0 : Int) k)) (Int.toNat a))) (wr IntKind.u32 (Int.mul (↑(bitsAt s (Int.toNat (Int.add (Int.add (0 : Int) k) a)) (Int.toNat b))) (pow2 (wr IntKind.u64 a) (IntKind.bits IntKind.u32)))))) = true ∧ ieq (↑(bitsAt s (Int.toNat (Int.add (0 : Int) k)) (Int.toNat (wr IntKind.i64 (Int.add a b))))) (wr IntKind.u32 (Int.add (↑(bitsAt s (Int.toNat (Int.add (0 : Int) k)) (Int.toNat a))) (wr IntKind.u32 (Int.mul (↑(bitsAt s (Int.toNat (Int.add (Int.add (0 : Int) k) a)) (Int.toNat b))) (pow2 (wr IntKind.u64 a) (IntKind.bits IntKind.u32)))))) = true ∧ ieq (↑(bitsAt s (Int.toNat (Int.add (0 : Int) k)) (Int.toNat (wr IntKind.i64 (Int.add a b))))) (wr IntKind.u32 (Int.add (↑(bitsAt s (Int.toNat (Int.add (0 : Int) k)) (Int.toNat a))) (wr IntKind.u32 (Int.mul (↑(bitsAt s (Int.toNat (Int.add (Int.add (0 : Int) k) a)) (Int.toNat b))) (pow2 (wr IntKind.u64 a) (IntKind.bits IntKind.u32)))))) = true ∧ ieq (↑(bitsAt s (Int.toNat (Int.add (0 : Int) k)) (Int.toNat (wr IntKind.i64 (Int.add a b))))) (wr IntKind.u32 (Int.add (↑(bitsAt s (Int.toNat (Int.add (0 : Int) k)) (Int.toNat a))) (wr IntKind.u32 (Int.mul (↑(bitsAt s (Int.toNat (Int.add (Int.add (0 : Int) k) a)) (Int.toNat b))) (pow2 (wr IntKind.u64 a) (IntKind.bits IntKind.u32)))))) = true ∧ (!ilt (wr IntKind.u64 a) (0 : Int)) = true ∧ (nat_lit 59 = nat_lit 59 ∧ false = false) ∧ fitN (Int.add (Int.add (0 : Int) k) a) b s = true ∧ okN b = true ∧ ((0 : Int) ≤ Int.add (Int.add (0 : Int) k) a ∧ Int.add (Int.add (0 : Int) k) a ≤ (8 : Int) * ↑(List.length s) ∧ List.length s ≤ (140737488355328 : Nat) ∧ ∀ (x : Nat), x ∈ s → x < (256 : Nat)) ∧ (nat_lit 59 = nat_lit 59 ∧ false = false) ∧ fitN (Int.add (0 : Int) k) a s = true ∧ okN a = true ∧ ((0 : Int) ≤ Int.add (0 : Int) k ∧ Int.add (0 : Int) k ≤ (8 : Int) * ↑(List.length s) ∧ List.length s ≤ (140737488355328 : Nat) ∧ ∀ (x : Nat), x ∈ s → x < (256 : Nat)) ∧ (nat_lit 59 = nat_lit 59 ∧ false = false) ∧ fitN (Int.add (0 : Int) k) (wr IntKind.i64 (Int.add a b)) s = true ∧ okN (wr IntKind.i64 (Int.add a b)) = true ∧ ((0 : Int) ≤ Int.add (0 : Int) k ∧ Int.add (0 : Int) k ≤ (8 : Int) * ↑(List.length s) ∧ List.length s ≤ (140737488355328 : Nat) ∧ ∀ (x : Nat), x ∈ s → x < (256 : Nat)) ∧ (nat_lit 59 = nat_lit 59 ∧ false = false) ∧ fitN (0 : Int) k s = true ∧ okN k = true ∧ ((0 : Int) ≤ (0 : Int) ∧ (0 : Int) ≤ (8 : Int) * ↑(List.length s) ∧ List.length s ≤ (140737488355328 : Nat) ∧ ∀ (x : Nat), x ∈ s → x < (256 : Nat)) ∧ (nat_lit 59 = nat_lit 59 ∧ false = false) ∧ fitN (0 : Int) k s = true ∧ okN k = true ∧ ((0 : Int) ≤ (0 : Int) ∧ (0 : Int) ≤ (8 : Int) * ↑(List.length s) ∧ List.length s ≤ (140737488355328 : Nat) ∧ ∀ (x : Nat), x ∈ s → x < (256 : Nat)) ∧ ilt (32 : Int) k = false ∧ ilt k (0 : Int) = false ∧ ilt k (0 : Int) = false ∧ ilt k (0 : Int) = false ∧ ilt (16 : Int) b = false ∧ ilt (16 : Int) b = false ∧ ilt (16 : Int) b = false ∧ ilt (16 : Int) a = false ∧ ilt (16 : Int) a = false ∧ ilt (16 : Int) a = false ∧ ilt b (0 : Int) = false ∧ ilt b (0 : Int) = false ∧ ilt b (0 : Int) = false ∧ ilt a (0 : Int) = false ∧ ilt a (0 : Int) = false ∧ ilt a (0 : Int) = false ∧ True
theorem t_g1 (k a b : Int) (s : List Nat) : saysTrue (pT k a b s (rep true 3)) = true := by kernel_rfl
theorem p_g1 (k a b : Int) (s : List Nat) : pcOf (pT k a b s (rep true 3)) = pc_g1 k a b s := by kernel_rfl
theorem t_g2 (k a b : Int) (s : List Nat) : saysTrue (pT k a b s (rep false 3 ++ rep true 3)) = true := by kernel_rfl
theorem p_g2 (k a b : Int) (s : List Nat) : pcOf (pT k a b s (rep false 3 ++ rep true 3)) = pc_g2 k a b s := by kernel_rfl
theorem t_g3 (k a b : Int) (s : List Nat) : saysTrue (pT k a b s (rep false 6 ++ rep true 3)) = true := by kernel_rfl
theorem p_g3 (k a b : Int) (s : List Nat) : pcOf (pT k a b s (rep false 6 ++ rep true 3)) = pc_g3 k a b s := by kernel_rfl
theorem t_g4 (k a b : Int) (s : List Nat) : saysTrue (pT k a b s (rep false 9 ++ rep true 3)) = true := by kernel_rfl
theorem p_g4 (k a b : Int) (s : List Nat) : pcOf (pT k a b s (rep false 9 ++ rep true 3)) = pc_g4 k a b s := by kernel_rfl
theorem t_g5 (k a b : Int) (s : List Nat) : saysTrue (pT k a b s (rep false 12 ++ rep true 3)) = true := by kernel_rfl
theorem p_g5 (k a b : Int) (s : List Nat) : pcOf (pT k a b s (rep false 12 ++ rep true 3)) = pc_g5 k a b s := by kernel_rfl
theorem t_g6 (k a b : Int) (s : List Nat) : saysTrue (pT k a b s (rep false 15 ++ [true])) = true := by kernel_rfl
theorem p_g6 (k a b : Int) (s : List Nat) : pcOf (pT k a b s (rep false 15 ++ [true])) = pc_g6 k a b s := by kernel_rfl
theorem t_qa1 (k a b : Int) (s : List Nat) : saysTrue (pT k a b s (rep false 16 ++ [true,false,true,false,true,false])) = true := by kernel_rfl
theorem p_qa1 (k a b : Int) (s : List Nat) : pcOf (pT k a b s (rep false 16 ++ [true,false,true,false,true,false])) = pc_qa1 k a b s := by kernel_rfl
theorem t_qa2 (k a b : Int) (s : List Nat) : saysTrue (pT k a b s (rep false 16 ++ [true,false,true,false,true,true])) = true := by kernel_rfl
theorem p_qa2 (k a b : Int) (s : List Nat) : pcOf (pT k a b s (rep false 16 ++ [true,false,true,false,true,true])) = pc_qa2 k a b s := by kernel_rfl
theorem t_qb (k a b : Int) (s : List Nat) : saysTrue (pT k a b s (rep false 16 ++ [true,true,true,true,true,false])) = true := by kernel_rfl
theorem p_qb (k a b : Int) (s : List Nat) : pcOf (pT k a b s (rep false 16 ++ [true,true,true,true,true,false])) = pc_qb k a b s := by kernel_rfl
theorem t_qc (k a b : Int) (s : List Nat) : saysTrue (pT k a b s (rep false 16 ++ [true,true,true,true,true,true,true,true,true,true,true,true,true,true,true,true,true,true])) = true := by kernel_rfl
theorem p_qc (k a b : Int) (s : List Nat) : pcOf (pT k a b s (rep false 16 ++ [true,true,true,true,true,true,true,true,true,true,true,true,true,true,true,true,true,true])) = pc_qc k a b s := by kernel_rfl
theorem bits_two (s : List Nat) (k a b : Nat) : bitsAt s k (a + b) = bitsAt s k a + bitsAt s (k + a) b * 2 ^ a := by
  unfold bitsAt
  rw [Nat.pow_add, Nat.mod_mul, Nat.div_div_eq_div_mul, ← Nat.pow_add, Nat.mul_comm (2 ^ a)]
theorem fit_t {a n : Nat} {s : List Nat} (h : a + n ≤ 8 * s.length) : fitN (a : Int) (n : Int) s = true := (fitN_iff _ _ _).2 (by omega)
theorem fit_f {a n : Nat} {s : List Nat} (h : ¬ a + n ≤ 8 * s.length) : fitN (a : Int) (n : Int) s = false := by
  cases hx : fitN (a : Int) (n : Int) s with
  | false => rfl
  | true => exact absurd ((fitN_iff _ _ _).1 hx) (by omega)
theorem ok_t {n : Nat} (h : n ≤ 32) : okN (n : Int) = true := (okN_iff _).2 (by omega)
/-- BitsParts goes one of these ways -/
theorem parts_ways (k a b : Int) (s : List Nat) (hs : s.length ≤ 140737488355328) (hb : ∀ x ∈ s, x < 256) : ∃ ch, saysTrue (pT k a b s ch) = true ∧ pcOf (pT k a b s ch) := by
  by_cases a0 : a < 0
  · have e := ilt_t a0
    exact ⟨_, t_g1 k a b s, by rw [p_g1]; exact ⟨e, e, e, trivial⟩⟩
  have ea : ilt a 0 = false := ilt_f (by omega)
  by_cases b0 : b < 0
  · have e := ilt_t b0
    exact ⟨_, t_g2 k a b s, by rw [p_g2]; exact ⟨e, e, e, ea, ea, ea, trivial⟩⟩
  have eb : ilt b 0 = false := ilt_f (by omega)
  by_cases a16 : 16 < a
  · have e := ilt_t a16
    exact ⟨_, t_g3 k a b s, by rw [p_g3]; exact ⟨e, e, e, eb, eb, eb, ea, ea, ea, trivial⟩⟩
  have ea2 : ilt 16 a = false := ilt_f (by omega)
  by_cases b16 : 16 < b
  · have e := ilt_t b16
    exact ⟨_, t_g4 k a b s, by rw [p_g4]; exact ⟨e, e, e, ea2, ea2, ea2, eb, eb, eb, ea, ea, ea, trivial⟩⟩
  have eb2 : ilt 16 b = false := ilt_f (by omega)
  by_cases k0 : k < 0
  · have e := ilt_t k0
    exact ⟨_, t_g5 k a b s, by rw [p_g5]; exact ⟨e, e, e, eb2, eb2, eb2, ea2, ea2, ea2, eb, eb, eb, ea, ea, ea, trivial⟩⟩
  have ek : ilt k 0 = false := ilt_f (by omega)
  by_cases k32 : 32 < k
  · have e := ilt_t k32
    exact ⟨_, t_g6 k a b s, by rw [p_g6]; exact ⟨e, ek, ek, ek, eb2, eb2, eb2, ea2, ea2, ea2, eb, eb, eb, ea, ea, ea, trivial⟩⟩
  have ek2 : ilt 32 k = false := ilt_f (by omega)
  obtain ⟨x, rfl⟩ := Int.eq_ofNat_of_zero_le (by omega : 0 ≤ a)
  obtain ⟨y, rfl⟩ := Int.eq_ofNat_of_zero_le (by omega : 0 ≤ b)
  obtain ⟨z, rfl⟩ := Int.eq_ofNat_of_zero_le (by omega : 0 ≤ k)
  have hx : x ≤ 16 := by omega
  have hy : y ≤ 16 := by omega
  have hz : z ≤ 32 := by omega
  have s1 : wr .i64 (Int.add (x : Int) (y : Int)) = ((x + y : Nat) : Int) := by show wr .i64 ((x : Int) + (y : Int)) = _; rw [wr_i64 (by omega) (by omega)]; omega
  have s1' : wr .i64 ((x + y : Nat) : Int) = ((x + y : Nat) : Int) := s1
  have s2 : Int.add 0 (z : Int) = (z : Int) := Int.zero_add _
  have s3 : ∀ u v : Nat, Int.add (u : Int) (v : Int) = ((u + v : Nat) : Int) := fun u v => rfl
  have s4 : ((0 : Nat) : Int) = 0 := rfl
  have hl : 0 ≤ 8 * (s.length : Int) := by omega
  have o1 := ok_t (n := x + y) (by omega)
  have o2 := ok_t hz
  have o3 := ok_t (n := x) (by omega)
  have o4 := ok_t (n := y) (by omega)
  have tt : True ∧ True := ⟨trivial, trivial⟩
  by_cases hfit : z ≤ 8 * s.length
  · have f1 : fitN 0 (z : Int) s = true := fit_t (a := 0) (by omega)
    have r0 : (0 : Int) ≤ 0 ∧ 0 ≤ 8 * (s.length : Int) ∧ s.length ≤ 140737488355328 ∧ ∀ x ∈ s, x < 256 := ⟨Int.le_refl _, hl, hs, hb⟩
    have r1 : 0 ≤ (z : Int) ∧ (z : Int) ≤ 8 * (s.length : Int) ∧ s.length ≤ 140737488355328 ∧ ∀ x ∈ s, x < 256 := ⟨by omega, by omega, hs, hb⟩
    by_cases h2 : z + (x + y) ≤ 8 * s.length
    · have f2 : fitN (z : Int) ((x + y : Nat) : Int) s = true := fit_t h2
      have f3 : fitN (z : Int) (x : Int) s = true := fit_t (by omega)
      have f4 : fitN ((z + x : Nat) : Int) (y : Int) s = true := fit_t (by omega)
      have r2 : 0 ≤ ((z + x : Nat) : Int) ∧ ((z + x : Nat) : Int) ≤ 8 * (s.length : Int) ∧ s.length ≤ 140737488355328 ∧ ∀ x ∈ s, x < 256 := ⟨by omega, by omega, hs, hb⟩
      have hw : wr .u64 (x : Int) = (x : Int) := wr_u64 (by omega) (by omega)
      have u1 : (!ilt (wr .u64 (x : Int)) 0) = true := by rw [hw]; exact nilt_t (by omega)
      have q1 : ieq ((z + (x + y) : Nat) : Int) ((z + x + y : Nat) : Int) = true := ieq_t (by omega)
      have q2 : ieq ((bitsAt s z (x + y) : Nat) : Int) (wr .u32 (Int.add ((bitsAt s z x : Nat) : Int) (wr .u32 (Int.mul ((bitsAt s (z + x) y : Nat) : Int) (pow2 (wr .u64 (x : Int)) (IntKind.bits .u32)))))) = true := by
        have h1 := bitsAt_lt s z x
        have h3 := bitsAt_lt s (z + x) y
        have h4 := bitsAt_lt s z (x + y)
        have e2 := bits_two s z x y
        have p1 : 2 ^ (x + y) ≤ 2 ^ 32 := Nat.pow_le_pow_right (by omega) (by omega)
        have hb2 : IntKind.bits .u32 = 32 := rfl
        rw [hw, hb2, pow2_nat x 32 (by omega)]
        generalize bitsAt s z x = A at h1 e2 ⊢
        generalize bitsAt s (z + x) y = B at h3 e2 ⊢
        generalize bitsAt s z (x + y) = C at h4 e2 ⊢
        have m1 : wr .u32 (Int.mul (B : Int) ((2 ^ x : Nat) : Int)) = ((B * 2 ^ x : Nat) : Int) := by
          show wr .u32 ((B : Int) * ((2 ^ x : Nat) : Int)) = _
          rw [show (B : Int) * ((2 ^ x : Nat) : Int) = ((B * 2 ^ x : Nat) : Int) from (Int.natCast_mul _ _).symm]
          exact wr_u32 (Int.natCast_nonneg _) (Int.ofNat_lt.2 (show _ < 4294967296 by omega))
        rw [m1]
        show ieq (C : Int) (wr .u32 ((A : Int) + ((B * 2 ^ x : Nat) : Int))) = true
        rw [show (A : Int) + ((B * 2 ^ x : Nat) : Int) = ((A + B * 2 ^ x : Nat) : Int) from (Int.natCast_add _ _).symm, wr_u32 (Int.natCast_nonneg _) (Int.ofNat_lt.2 (show _ < 4294967296 by omega)), ← e2]
        exact ieq_t rfl
      refine ⟨_, t_qc _ _ _ s, ?_⟩
      rw [p_qc]
      unfold pc_qc
      simp only [s1, s1', s2, s3, Int.toNat_natCast]
      exact ⟨q1, q1, q2, q2, q2, q2, q2, q2, u1, tt, f4, o4, r2, tt, f3, o3, r1, tt, f2, o1, r1, tt, f1, o2, r0, tt, f1, o2, r0, ek2, ek, ek, ek, eb2, eb2, eb2, ea2, ea2, ea2, eb, eb, eb, ea, ea, ea, trivial⟩
    · have f2 : fitN (z : Int) ((x + y : Nat) : Int) s = false := fit_f h2
      refine ⟨_, t_qb _ _ _ s, ?_⟩
      rw [p_qb]
      unfold pc_qb
      simp only [s1, s1', s2, s3, Int.toNat_natCast]
      exact ⟨tt, f2, o1, r1, tt, f1, o2, r0, tt, f1, o2, r0, ek2, ek, ek, ek, eb2, eb2, eb2, ea2, ea2, ea2, eb, eb, eb, ea, ea, ea, trivial⟩
  · have f1 : fitN 0 (z : Int) s = false := fit_f (a := 0) (by omega)
    have r0 : (0 : Int) ≤ 0 ∧ 0 ≤ 8 * (s.length : Int) ∧ s.length ≤ 140737488355328 ∧ ∀ x ∈ s, x < 256 := ⟨Int.le_refl _, hl, hs, hb⟩
    by_cases h2 : x + y ≤ 8 * s.length
    · have f2 : fitN 0 ((x + y : Nat) : Int) s = true := fit_t (a := 0) (by omega)
      refine ⟨_, t_qa2 _ _ _ s, ?_⟩
      rw [p_qa2]
      unfold pc_qa2
      simp only [s1, s1', s2, s3, Int.toNat_natCast]
      exact ⟨tt, f2, o1, r0, tt, f1, o2, r0, tt, f1, o2, r0, ek2, ek, ek, ek, eb2, eb2, eb2, ea2, ea2, ea2, eb, eb, eb, ea, ea, ea, trivial⟩
    · have f2 : fitN 0 ((x + y : Nat) : Int) s = false := fit_f (a := 0) (by omega)
      refine ⟨_, t_qa1 _ _ _ s, ?_⟩
      rw [p_qa1]
      unfold pc_qa1
      simp only [s1, s1', s2, s3, Int.toNat_natCast]
      exact ⟨tt, f2, o1, r0, tt, f1, o2, r0, tt, f1, o2, r0, ek2, ek, ek, ek, eb2, eb2, eb2, ea2, ea2, ea2, eb, eb, eb, ea, ea, ea, trivial⟩
theorem parts_calls {W : World} (c : ByteArray) (k a b : Int) (hs : c.size ≤ 140737488355328) :
    Calls Try.prog 3 #[.agg #[.string c, .int .i64 k, .int .i64 a, .int .i64 b]] W fun e W' => e = .returned (.bool true) ∧ Below W.heap.size W W' := by
  obtain ⟨ch, h1, h2⟩ := parts_ways k a b (bts c) (by rw [bts_length]; exact hs) (bts_lt c)
  refine says_calls (ρ := idR) (orP_ok lP_ok rP_ok) h1 h2 ⟨Nat.le_refl _, fun g _ => rfl⟩ (LR.cons ?_ (LR.nil _ _))
  exact .agg _ _ rfl (fun i x u hx hu => by
    match i, hx, hu with
    | 0, hx, hu => injection hx with hx; injection hu with hu; subst hx hu; exact .str _ _
    | 1, hx, hu => injection hx with hx; injection hu with hu; subst hx hu; exact .int _ _ _
    | 2, hx, hu => injection hx with hx; injection hu with hu; subst hx hu; exact .int _ _ _
    | 3, hx, hu => injection hx with hx; injection hu with hu; subst hx hu; exact .int _ _ _)
end Go.Proofs.Yticfagianocfiaa.SX
