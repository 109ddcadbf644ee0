import Derived.Test.YticfagianocfiaaBitsPt
set_option linter.unusedVariables false
set_option linter.unusedSimpArgs false
namespace Go.Proofs.Yticfagianocfiaa.SX
open Go.Proofs Go.Proofs.Yticfagianocfiaa Go.RowKit
set_option maxRecDepth 1000000
/-! the reference's reader: Bits -/
noncomputable def R25 : Code := c1 (bodyOf 25)
noncomputable def B25 : Code := c1 (c2 (bodyOf 25))
noncomputable def D25 : Code := c1 (c2 (c2 (bodyOf 25)))
noncomputable def I25 : Code := c1 (c2 (c2 (c2 (bodyOf 25))))
noncomputable def K25 : Code := c1 (c1 (c2 (c2 (c2 (c2 (bodyOf 25))))))
noncomputable def L25 : Code := c1 (c1 (c2 (c1 (c2 (c2 (c2 (c2 (bodyOf 25))))))))
noncomputable def Z25 : Code := c2 (c2 (c2 (c2 (c2 (bodyOf 25)))))
theorem body25 : bodyOf 25 = .seq R25 (.seq B25 (.seq D25 (.seq I25 (.seq (.seq K25 (.block 0 (.loop L25))) Z25)))) := by kernel_rfl
theorem wf25 : wf 69 R25 = true ∧ wf 69 B25 = true ∧ wf 69 D25 = true ∧ wf 69 I25 = true ∧ wf 69 K25 = true ∧ wf 69 L25 = true ∧ wf 69 Z25 = true := ⟨by kernel_rfl, by kernel_rfl, by kernel_rfl, by kernel_rfl, by kernel_rfl, by kernel_rfl, by kernel_rfl⟩
theorem fits25 : Try.f25.body = some (bodyOf 25) ∧ Try.f25.ntmps = 69 := ⟨by kernel_rfl, by kernel_rfl⟩
noncomputable def cs25 (a : Int) (s : List Nat) : List AV := [.str true s, .int true .i64 a]
noncomputable def g25 (a : Int) (s : List Nat) (pc : Prop) (ch : List Bool) : G := ⟨hU 51 (cs25 a s), 1001, pc, ch⟩
noncomputable def s25 (l : List (Nat × AV)) (a : Int) (s : List Nat) (pc : Prop) (ch : List Bool) : St := ⟨mkEnv 69 l, g25 a s pc ch, [], .no, []⟩
noncomputable def e25 (n v i : Int) : List (Nat × AV) := [(0, .ptr 1000 0), (1, .int true .i64 n), (6, .int true .u32 v), (7, .int true .i64 i)]
theorem r25 (n a : Int) (s : List Nat) : wkX 69 [0, 1] m1 1001 (exec R25 bT bC 1000 ⟨argsEnv [.ptr 1000 0, .int true .i64 n] 0 .e, g25 a s True [], [], .no, []⟩) = some (.normal, s25 (f10 n) a s True []) := by kernel_rfl
theorem b25a (n a : Int) (s : List Nat) : wkX 69 [4, 5] m1 1001 (exec B25 bT bC 1000 (s25 (f10 n) a s True (rep true 3))) = some (.ret, s25 (z10 false 0 1) a s (ilt n 0 = true ∧ ilt n 0 = true ∧ ilt n 0 = true ∧ True) []) := by kernel_rfl
theorem b25b (n a : Int) (s : List Nat) : wkX 69 [4, 5] m1 1001 (exec B25 bT bC 1000 (s25 (f10 n) a s True (rep false 3 ++ [true]))) = some (.ret, s25 (z10 false 0 1) a s (ilt 32 n = true ∧ ilt n 0 = false ∧ ilt n 0 = false ∧ ilt n 0 = false ∧ True) []) := by kernel_rfl
theorem b25d (n a : Int) (s : List Nat) : wkX 69 [0, 1] m1 1001 (exec B25 bT bC 1000 (s25 (f10 n) a s True (rep false 4))) = some (.normal, s25 (f10 n) a s (ilt 32 n = false ∧ ilt n 0 = false ∧ ilt n 0 = false ∧ ilt n 0 = false ∧ True) []) := by kernel_rfl
theorem d25a (n a : Int) (s : List Nat) : wkX 69 [4, 5] m1 1001 (exec D25 bT bC 1000 (s25 (f10 n) a s True [true])) = some (.ret, s25 (z10 false 0 2) a s (ilt (rest10 a s) n = true ∧ True) []) := by kernel_rfl
theorem d25b (n a : Int) (s : List Nat) : wkX 69 [0, 1] m1 1001 (exec D25 bT bC 1000 (s25 (f10 n) a s True [false])) = some (.normal, s25 (f10 n) a s (ilt (rest10 a s) n = false ∧ True) []) := by kernel_rfl
theorem i25 (n a : Int) (s : List Nat) : wkX 69 [0, 1, 6] m1 1001 (exec I25 bT bC 1000 (s25 (f10 n) a s True [])) = some (.normal, s25 [(0, .ptr 1000 0), (1, .int true .i64 n), (6, .int false .u32 0)] a s True []) := by kernel_rfl
theorem k25 (n a : Int) (s : List Nat) : wkX 69 [0, 1, 6, 7] m1 1001 (exec K25 bT bC 1000 (s25 [(0, .ptr 1000 0), (1, .int true .i64 n), (6, .int false .u32 0)] a s True [])) = some (.normal, s25 [(0, .ptr 1000 0), (1, .int true .i64 n), (6, .int false .u32 0), (7, .int false .i64 0)] a s True []) := by kernel_rfl
noncomputable def k25n (a i : Int) : Int := wr .i64 (a.add i)
noncomputable def v25 (s : List Nat) (v a i : Int) : Int := wr .u32 (v.add (wr .u32 ((((wr .u32 (byteAt s (wr .i64 ((k25n a i).tdiv 8)))).fdiv (pow2 (wr .u64 ((k25n a i).tmod 8)) 32)).tmod 2).mul (pow2 (wr .u64 i) 32))))
theorem l25a (n a v i : Int) (s : List Nat) : wkX 69 [0, 1, 6, 7] m1 1001 (exec L25 bT bC 1000 (s25 (e25 n v i) a s True [true])) = some (.normal, s25 (e25 n (v25 s v a i) (wr .i64 (i.add 1))) a s ((!ilt (wr .u64 i) 0) = true ∧ (!ilt (wr .u64 ((k25n a i).tmod 8)) 0) = true ∧ inB (wr .i64 ((k25n a i).tdiv 8)) s.length = true ∧ ilt i n = true ∧ True) []) := by kernel_rfl
theorem l25z (n a v i : Int) (s : List Nat) : wkX 69 [0, 1, 6, 7] m1 1001 (exec L25 bT bC 1000 (s25 (e25 n v i) a s True [false])) = some (.exit 0, s25 (e25 n v i) a s (ilt i n = false ∧ True) []) := by kernel_rfl
theorem z25' (n a v i : Int) (s : List Nat) : wkX 69 [4, 5] m1 1001 (exec Z25 bT bC 1000 (s25 (e25 n v i) a s True [])) = some (.ret, s25 (z10 true v 0) (wr .i64 (a.add n)) s True []) := by kernel_rfl
theorem res25 (b : Bool) (v r : Int) (g : G) : SX.results bT (mkEnv 69 (z10 b v r)) g Try.f25.results.toList = some [.int b .u32 v, .int false .i64 r] := by kernel_rfl
theorem bit_of (N k : Nat) : N / 2 ^ (8 * (k / 8)) % 256 / 2 ^ (k % 8) % 2 = N / 2 ^ k % 2 := by
  have h := cut (N / 2 ^ (8 * (k / 8))) (k % 8) 8 1 (by omega)
  rw [Nat.pow_one, show (2 : Nat) ^ 8 = 256 from rfl, Nat.div_div_eq_div_mul, ← Nat.pow_add, show 8 * (k / 8) + k % 8 = k from by omega] at h
  exact h
section
variable {ρ0 : Rn} {H0 : Nat → Option AObj} {w0 : World} {act : Act} {w : World}
theorem rf_round {s : List Nat} {a n i : Nat} (h : ∀ x ∈ s, x < 256) (hs0 : s.length ≤ 140737488355328) (hn : n ≤ 32) (ha : a + n ≤ 8 * s.length) (hi : i < n)
    (hs : SL Try.prog 69 [1000] ρ0 H0 w0 (s25 (e25 n (bitsAt s a i : Nat) i) a s True []) act w) :
    L25.wp Try.prog (fun x a' w' => x = .normal ∧ SL Try.prog 69 [1000] ρ0 H0 w0 (s25 (e25 n (bitsAt s a (i + 1) : Nat) ((i + 1 : Nat) : Int)) a s True []) a' w') act w := by
  have ek : k25n (a : Int) (i : Int) = ((a + i : Nat) : Int) := by unfold k25n; show wr .i64 ((a : Int) + (i : Int)) = _; rw [wr_i64 (by omega) (by omega)]; omega
  have ed : wr .i64 (Int.tdiv ((a + i : Nat) : Int) 8) = (((a + i) / 8 : Nat) : Int) := by show wr .i64 (((a + i) / 8 : Nat) : Int) = _; rw [wr_i64 (by omega) (by omega)]
  have em : wr .u64 (Int.tmod ((a + i : Nat) : Int) 8) = (((a + i) % 8 : Nat) : Int) := by show wr .u64 (((a + i) % 8 : Nat) : Int) = _; rw [wr_u64 (by omega) (by omega)]
  have ei : wr .u64 (i : Int) = (i : Int) := wr_u64 (by omega) (by omega)
  have e5 : wr .i64 (Int.add (i : Int) 1) = ((i + 1 : Nat) : Int) := by show wr .i64 ((i : Int) + 1) = _; rw [wr_i64 (by omega) (by omega)]; omega
  have hlt : (a + i) / 8 < s.length := by omega
  have ev : v25 s ((bitsAt s a i : Nat) : Int) (a : Int) (i : Int) = ((bitsAt s a (i + 1) : Nat) : Int) := by
    unfold v25
    rw [ek, ed, em, ei, byteAt_num s _ h hlt, pow2_nat _ 32 (by omega), pow2_nat _ 32 (by omega)]
    have hB : numB s / 2 ^ (8 * ((a + i) / 8)) % 256 < 256 := Nat.mod_lt _ (by omega)
    have hbit := bit_of (numB s) (a + i)
    have hb := bitsAt_lt s a i
    have hb1 := bitsAt_lt s a (i + 1)
    have hst : bitsAt s a (i + 1) = bitsAt s a i + numB s / 2 ^ (a + i) % 2 * 2 ^ i := by
      unfold bitsAt
      rw [Nat.pow_succ, Nat.mod_mul, Nat.div_div_eq_div_mul, ← Nat.pow_add, Nat.mul_comm (2 ^ i)]
    have hp1 : 2 ^ (i + 1) ≤ 2 ^ 32 := Nat.pow_le_pow_right (by omega) (by omega)
    have f0 : wr .u32 ((numB s / 2 ^ (8 * ((a + i) / 8)) % 256 : Nat) : Int) = ((numB s / 2 ^ (8 * ((a + i) / 8)) % 256 : Nat) : Int) := wr_u32 (by omega) (by omega)
    rw [f0, fdiv_nat]
    have f1 : Int.tmod ((numB s / 2 ^ (8 * ((a + i) / 8)) % 256 / 2 ^ ((a + i) % 8) : Nat) : Int) 2 = ((numB s / 2 ^ (a + i) % 2 : Nat) : Int) := by
      rw [← hbit]; rfl
    rw [f1]
    rw [hst] at hb1 ⊢
    generalize bitsAt s a i = A at hb hb1 ⊢
    generalize numB s / 2 ^ (a + i) % 2 = B at hb1 ⊢
    have f2 : wr .u32 (Int.mul (B : Int) ((2 ^ i : Nat) : Int)) = ((B * 2 ^ i : Nat) : Int) := by
      show wr .u32 ((B : Int) * ((2 ^ i : Nat) : Int)) = _
      rw [show (B : Int) * ((2 ^ i : Nat) : Int) = ((B * 2 ^ i : Nat) : Int) from (Int.natCast_mul _ _).symm]
      exact wr_u32 (Int.natCast_nonneg _) (Int.ofNat_lt.2 (show _ < 4294967296 by omega))
    rw [f2]
    show wr .u32 ((A : Int) + ((B * 2 ^ i : Nat) : Int)) = _
    rw [show (A : Int) + ((B * 2 ^ i : Nat) : Int) = ((A + B * 2 ^ i : Nat) : Int) from (Int.natCast_add _ _).symm]
    exact wr_u32 (Int.natCast_nonneg _) (Int.ofNat_lt.2 (show _ < 4294967296 by omega))
  have e0 := l25a n a ((bitsAt s a i : Nat) : Int) i s
  rw [ev, e5] at e0
  refine wp_mono (exec_sl bT_ok bM bC_ok wf25.2.2.2.2.2.1 e0 okU (fun v h => by cases h) ⟨?_, ?_, ?_, ilt_t (by omega), trivial⟩ rfl rfl kp1 (hs.alike rfl rfl rfl)) ?_
  · rw [ei]; exact nilt_t (by omega)
  · rw [ek, em]; exact nilt_t (by omega)
  · rw [ek, ed]; exact inB_t (by omega) (by omega)
  · exact fun x a' w' ⟨h1, h2⟩ => ⟨h1.normal, h2.alike rfl rfl rfl⟩
theorem rf_loop {s : List Nat} {a n : Nat} (h : ∀ x ∈ s, x < 256) (hs0 : s.length ≤ 140737488355328) (hn : n ≤ 32) (ha : a + n ≤ 8 * s.length)
    (hs : SL Try.prog 69 [1000] ρ0 H0 w0 (s25 (e25 n 0 0) a s True []) act w) :
    (Code.block 0 (.loop L25)).wp Try.prog (fun x a' w' => x = .normal ∧ SL Try.prog 69 [1000] ρ0 H0 w0 (s25 (e25 n (bitsAt s a n : Nat) n) a s True []) a' w') act w := by
  have hz : bitsAt s a 0 = 0 := Nat.mod_one _
  refine wp_block (loop_sl (ι := Nat) (fun i => s25 (e25 n (bitsAt s a i : Nat) i) a s True []) (fun i => i ≤ n) (fun i => n - i) 0 (Nat.zero_le _) (by rw [hz]; exact hs) ?_)
  intro i hi act w hs
  rcases Nat.lt_or_ge i n with hlt | hge
  · refine wp_mono (rf_round h hs0 hn ha hlt hs) ?_
    rintro x a' w' ⟨rfl, hs'⟩
    have g2 : n - (i + 1) < n - i := by omega
    exact ⟨i + 1, hlt, g2, hs'⟩
  · obtain rfl : i = n := by omega
    refine wp_mono (exec_sl bT_ok bM bC_ok wf25.2.2.2.2.2.1 (l25z i a _ i s) okU (fun v h => by cases h) ⟨ilt_f (by omega), trivial⟩ rfl rfl kp1 (hs.alike rfl rfl rfl)) ?_
    rintro x a' w' ⟨hx, hs'⟩
    obtain rfl := hx.exit
    exact ⟨rfl, hs'.alike rfl rfl rfl⟩
end
/-- the reference's Bits: the same -/
theorem fbits_lc (s : List Nat) (a : Nat) (n : Int) (h : ∀ x ∈ s, x < 256) (hs0 : s.length ≤ 140737488355328) (ha : a ≤ 8 * s.length) :
    LCu Try.prog 25 [.int .i64 n] 51 (cs25 a s) (cs25 ((bitsR s a n).2.2 : Nat) s) (.tuple #[.int .u32 ((bitsR s a n).1 : Nat), .int .i64 (bitsR s a n).2.1]) := by
  refine lcu_of (xs := [.int true .i64 n]) (xr := .tup [.int (decide ((bitsR s a n).2.1 = 0)) .u32 ((bitsR s a n).1 : Nat), .int false .i64 (bitsR s a n).2.1]) Try.func25 fits25.1 fits25.2 (by omega) (by simp) (fun ρ D => LR.cons (.int _ _ _) (LR.nil _ _)) (fun ρ D v hv => pair_vr hv) ?_
  intro ρ0 H0 w0 act w hs
  rw [body25]
  have hrest := rest10_nat a s hs0 ha
  refine wp_seq (wp_mono (exec_sl bT_ok bM bC_ok wf25.1 (r25 n a s) okU (fun v h => by cases h) trivial rfl rfl kp1 (hs.alike rfl rfl rfl)) ?_)
  rintro x a1 w1 ⟨hx, h1⟩
  obtain rfl := hx.normal
  by_cases h0 : n < 0
  · have e : bitsR s a n = (0, 1, a) := by unfold bitsR; rw [if_neg (by omega)]
    rw [e]
    refine wp_seq (wp_mono (exec_sl bT_ok bM bC_ok wf25.2.1 (b25a n a s) okU (fun v h => by cases h) ⟨ilt_t h0, ilt_t h0, ilt_t h0, trivial⟩ rfl rfl kp1 (h1.alike rfl rfl rfl)) ?_)
    rintro x a2 w2 ⟨hx, h2⟩
    obtain rfl := hx.ret
    exact ⟨.inr rfl, _, True, [], _, h2.alike rfl rfl rfl, trivial, res25 false 0 1 _, rfl⟩
  · have c0 : ilt n 0 = false := ilt_f (by omega)
    by_cases h32 : 32 < n
    · have e : bitsR s a n = (0, 1, a) := by unfold bitsR; rw [if_neg (by omega)]
      rw [e]
      refine wp_seq (wp_mono (exec_sl bT_ok bM bC_ok wf25.2.1 (b25b n a s) okU (fun v h => by cases h) ⟨ilt_t h32, c0, c0, c0, trivial⟩ rfl rfl kp1 (h1.alike rfl rfl rfl)) ?_)
      rintro x a2 w2 ⟨hx, h2⟩
      obtain rfl := hx.ret
      exact ⟨.inr rfl, _, True, [], _, h2.alike rfl rfl rfl, trivial, res25 false 0 1 _, rfl⟩
    · have c32 : ilt 32 n = false := ilt_f (by omega)
      obtain ⟨k, rfl⟩ := Int.eq_ofNat_of_zero_le (by omega : 0 ≤ n)
      have hk : k ≤ 32 := by omega
      have ek : (k : Int).toNat = k := Int.toNat_natCast k
      refine wp_seq (wp_mono (exec_sl bT_ok bM bC_ok wf25.2.1 (b25d k a s) okU (fun v h => by cases h) ⟨c32, c0, c0, c0, trivial⟩ rfl rfl kp1 (h1.alike rfl rfl rfl)) ?_)
      rintro x a2 w2 ⟨hx, h2⟩
      obtain rfl := hx.normal
      by_cases hfit : a + k ≤ 8 * s.length
      · have e : bitsR s a (k : Int) = (bitsAt s a k, 0, a + k) := by unfold bitsR; rw [if_pos (by omega), ek, if_pos hfit]
        rw [e]
        refine wp_seq (wp_mono (exec_sl bT_ok bM bC_ok wf25.2.2.1 (d25b k a s) okU (fun v h => by cases h) ⟨by rw [hrest]; exact ilt_f (by omega), trivial⟩ rfl rfl kp1 (h2.alike rfl rfl rfl)) ?_)
        rintro x a3 w3 ⟨hx, h3⟩
        obtain rfl := hx.normal
        refine wp_seq (wp_mono (exec_sl bT_ok bM bC_ok wf25.2.2.2.1 (i25 k a s) okU (fun v h => by cases h) trivial rfl rfl kp1 (h3.alike rfl rfl rfl)) ?_)
        rintro x a4 w4 ⟨hx, h4⟩
        obtain rfl := hx.normal
        refine wp_seq (wp_seq (wp_mono (exec_sl bT_ok bM bC_ok wf25.2.2.2.2.1 (k25 k a s) okU (fun v h => by cases h) trivial rfl rfl kp1 h4) ?_))
        rintro x a5 w5 ⟨hx, h5⟩
        obtain rfl := hx.normal
        refine wp_mono (rf_loop h hs0 hk hfit (h5.sim rfl rfl (.same (.same (.int (.int .nil)))) rfl rfl)) ?_
        rintro x a6 w6 ⟨rfl, h6⟩
        have e0 := z25' k a ((bitsAt s a k : Nat) : Int) k s
        have e3 : wr .i64 (Int.add (a : Int) (k : Int)) = ((a + k : Nat) : Int) := by show wr .i64 ((a : Int) + (k : Int)) = _; rw [wr_i64 (by omega) (by omega)]; omega
        rw [e3] at e0
        refine wp_mono (exec_sl bT_ok bM bC_ok wf25.2.2.2.2.2.2 e0 okU (fun v h => by cases h) trivial rfl rfl kp1 h6) ?_
        rintro x a7 w7 ⟨hx, h7⟩
        obtain rfl := hx.ret
        exact ⟨.inr rfl, _, True, [], _, h7.alike rfl rfl rfl, trivial, res25 true _ 0 _, rfl⟩
      · have e : bitsR s a (k : Int) = (0, 2, a) := by unfold bitsR; rw [if_pos (by omega), ek, if_neg hfit]
        rw [e]
        refine wp_seq (wp_mono (exec_sl bT_ok bM bC_ok wf25.2.2.1 (d25a k a s) okU (fun v h => by cases h) ⟨by rw [hrest]; exact ilt_t (by omega), trivial⟩ rfl rfl kp1 (h2.alike rfl rfl rfl)) ?_)
        rintro x a3 w3 ⟨hx, h3⟩
        obtain rfl := hx.ret
        exact ⟨.inr rfl, _, True, [], _, h3.alike rfl rfl rfl, trivial, res25 false 0 2 _, rfl⟩
/-! the reference's reader: Align -/
noncomputable def L22 : Code := c1 (c1 (bodyOf 22))
theorem body22 : bodyOf 22 = .block 0 (.loop L22) := by kernel_rfl
theorem wf22 : wf 15 L22 = true := by kernel_rfl
theorem fits22 : Try.f22.body = some (bodyOf 22) ∧ Try.f22.ntmps = 15 := ⟨by kernel_rfl, by kernel_rfl⟩
noncomputable def s22 (a : Int) (s : List Nat) (pc : Prop) (ch : List Bool) : St := ⟨mkEnv 15 [(0, .ptr 1000 0)], g25 a s pc ch, [], .no, []⟩
theorem l22a (a : Int) (s : List Nat) : wkX 15 [0] m1 1001 (exec L22 bT bC 1000 (s22 a s True [true])) = some (.normal, s22 (wr .i64 (a.add 1)) s ((!ieq (a.tmod 8) 0) = true ∧ True) []) := by kernel_rfl
theorem l22z (a : Int) (s : List Nat) : wkX 15 [0] m1 1001 (exec L22 bT bC 1000 (s22 a s True [false])) = some (.exit 0, s22 a s ((!ieq (a.tmod 8) 0) = false ∧ True) []) := by kernel_rfl
theorem falign_lc (s : List Nat) (a : Nat) (ha : a < 2 ^ 60) : LCu Try.prog 22 [] 51 (cs25 a s) (cs25 (up8 a : Nat) s) (.tuple #[]) := by
  refine lcu_of (xs := []) (xr := .tup []) Try.func22 fits22.1 fits22.2 (by omega) (by simp) (fun ρ D => LR.nil _ _) (fun ρ D v hv => tup0 hv) ?_
  intro ρ0 H0 w0 act w hs
  rw [body22]
  have h0 : SL Try.prog 15 [1000] ρ0 H0 w0 (s22 a s True []) act w := hs.look (l := [(0, .ptr 1000 0)]) rfl (fun p hp => by obtain rfl := List.mem_singleton.1 hp; kernel_rfl) rfl rfl
  refine wp_mono (Q := fun x a' w' => x = .normal ∧ SL Try.prog 15 [1000] ρ0 H0 w0 (s22 (up8 a : Nat) s True []) a' w') (wp_block (loop_sl (ι := Nat) (fun i => s22 i s True []) (fun i => a ≤ i ∧ i ≤ up8 a) (fun i => up8 a - i) a ⟨Nat.le_refl _, by unfold up8; omega⟩ h0 ?_)) ?_
  · intro i ⟨h1, h2⟩ act w hs
    have et : ((i : Int).tmod 8) = ((i % 8 : Nat) : Int) := rfl
    by_cases h8 : i % 8 = 0
    · have : up8 a = i := by unfold up8 at *; omega
      rw [this]
      refine wp_mono (exec_sl bT_ok bM bC_ok wf22 (l22z i s) okU (fun v h => by cases h) ⟨by rw [et, ieq_t (by rw [h8]; rfl)]; rfl, trivial⟩ rfl rfl kp1 (hs.alike rfl rfl rfl)) ?_
      rintro x a' w' ⟨hx, hs'⟩
      obtain rfl := hx.exit
      exact ⟨rfl, hs'.alike rfl rfl rfl⟩
    · have hlt : i < up8 a := by unfold up8 at *; omega
      have e0 := l22a i s
      have e5 : wr .i64 (Int.add (i : Int) 1) = ((i + 1 : Nat) : Int) := by show wr .i64 ((i : Int) + 1) = _; unfold up8 at hlt; rw [wr_i64 (by omega) (by omega)]; omega
      rw [e5] at e0
      refine wp_mono (exec_sl bT_ok bM bC_ok wf22 e0 okU (fun v h => by cases h) ⟨by rw [et, ieq_f (by omega)]; rfl, trivial⟩ rfl rfl kp1 (hs.alike rfl rfl rfl)) ?_
      rintro x a' w' ⟨hx, hs'⟩
      obtain rfl := hx.normal
      have g : up8 a - (i + 1) < up8 a - i := by omega
      exact ⟨i + 1, ⟨by omega, hlt⟩, g, hs'.alike rfl rfl rfl⟩
  · rintro x a' w' ⟨rfl, hs'⟩
    exact ⟨.inl rfl, mkEnv 15 [(0, .ptr 1000 0)], True, [], [], hs'.alike rfl rfl rfl, trivial, by kernel_rfl, rfl⟩
open Go.Proofs Go.Proofs.Yticfagianocfiaa Go.RowKit
set_option maxRecDepth 1000000
/-! ### the reference's reader as primitives -/
noncomputable def pRf (b : Nat) (n : Int) (g : G) : Option (CR × PM × G) := match g.h.get b with
  | some (.cells t [.str _ s, .int _ .i64 a] gr) => goBits a n s g fun v r a1 g => some (.ret (.tup [.int true .u32 v, .int false .i64 r]), .no, (told (t = 51 ∧ gr = false) g).set b (some (.cells 51 (cs25 a1 s) false)))
  | _ => none
noncomputable def pAf (b : Nat) (g : G) : Option (CR × PM × G) := match g.h.get b with
  | some (.cells t [.str _ s, .int _ .i64 a] gr) => some (.ret (.tup []), .no, (told (t = 51 ∧ gr = false ∧ 0 ≤ a ∧ a < 1152921504606846976) g).set b (some (.cells 51 (cs25 (up8 a.toNat : Nat) s) false)))
  | _ => none
noncomputable def fP : CallT := fun pm f args g => match pm, args with
  | .no, [.ptr b 0, .int _ .i64 n] => bif f.beq 25 then pRf b n g else none
  | .no, [.ptr b 0] => bif f.beq 22 then pAf b g else none
  | _, _ => none
theorem ok25 : FnOk Try.prog 25 := fnOk Try.func25 fits25.1 (by kernel_rfl)
theorem ok22 : FnOk Try.prog 22 := fnOk Try.func22 fits22.1 (by kernel_rfl)
theorem pRf_some {b : Nat} {n : Int} {g : G} {q : CR × PM × G} (h : pRf b n g = some q) : (q.2.2.pc → PrOk Try.prog 25 b [.int .i64 n] g q) ∧ Le g q.2.2 ∧ q.2.1 = .no := by
  unfold pRf at h
  split at h
  · rename_i t s3 s s2 a gr hb
    obtain ⟨v, r, a1, g1, hp, hk, hs⟩ := goBits_some h
    clear h
    injection hk with hk
    subst hk
    have hle : Le g ((told (t = 51 ∧ gr = false) g1).set b (some (.cells 51 (cs25 a1 s) false))) := ⟨fun p => hp.pc p.2, by show g.nx ≤ g1.nx; rw [hp.nx]; exact Nat.le_refl _⟩
    refine ⟨fun _ => ⟨hle, rfl, fun E ρ w p hpc hE hv hw => ?_⟩, hle, rfl⟩
    obtain ⟨⟨rfl, rfl⟩, hp1⟩ := hpc
    obtain ⟨hr, rfl, rfl, rfl⟩ := hs hp1
    obtain ⟨rfl, _⟩ := hv.ptr_inv
    obtain ⟨k, rfl⟩ := Int.eq_ofNat_of_zero_le hr.1
    have ek : (k : Int).toNat = k := Int.toNat_natCast k
    rw [ek]
    have hL := fbits_lc s k n hr.2.2.2 hr.2.2.1 (by have := hr.2.1; omega)
    refine (upd_call2 hL (fun ρ ρ' D D' b b' r ho => two_or (u := .str s3 s) (v := .int s2 .i64 (k : Int)) (u' := .str true s) (v' := .int true .i64 (k : Int)) (show s = s from rfl) (show _ ∧ _ from ⟨rfl, rfl⟩) ho) rfl hw hb).mono ?_
    rintro e w' ⟨rfl, he⟩
    refine ⟨ρ, he.pcR ⟨?_, hp.nx, fun p => hp.pc p.2⟩, pair_mk _ _ _ _ _ _⟩
    show g1.h.put b _ = g.h.put b _
    rw [hp.h]
  · cases h
theorem pAf_some {b : Nat} {g : G} {q : CR × PM × G} (h : pAf b g = some q) : (q.2.2.pc → PrOk Try.prog 22 b [] g q) ∧ Le g q.2.2 ∧ q.2.1 = .no := by
  unfold pAf at h
  split at h
  · rename_i t s3 s s2 a gr hb
    injection h with h
    subst h
    have hle : Le g ((told (t = 51 ∧ gr = false ∧ 0 ≤ a ∧ a < 1152921504606846976) g).set b (some (.cells 51 (cs25 (up8 a.toNat : Nat) s) false))) := ⟨fun p => p.2, Nat.le_refl _⟩
    refine ⟨fun _ => ⟨hle, rfl, fun E ρ w p hpc hE hv hw => ?_⟩, hle, rfl⟩
    obtain ⟨⟨rfl, rfl, ha0, ha1⟩, _⟩ := hpc
    obtain ⟨rfl, _⟩ := hv.ptr_inv
    obtain ⟨k, rfl⟩ := Int.eq_ofNat_of_zero_le ha0
    have ek : (k : Int).toNat = k := Int.toNat_natCast k
    rw [ek]
    have hL := falign_lc s k (by omega)
    refine (upd_call2 hL (fun ρ ρ' D D' b b' r ho => two_or (u := .str s3 s) (v := .int s2 .i64 (k : Int)) (u' := .str true s) (v' := .int true .i64 (k : Int)) (show s = s from rfl) (show _ ∧ _ from ⟨rfl, rfl⟩) ho) rfl hw hb).mono ?_
    rintro e w' ⟨rfl, he⟩
    exact ⟨ρ, he.pcR ⟨rfl, rfl, fun p => p.2⟩, tup0_vr _ _⟩
  · cases h
theorem fP_ok : CallOk Try.prog fP := by
  refine callOk_of fun pm f args g q h => ?_
  unfold fP at h
  split at h
  · rename_i b s1 n
    rcases bifNone h with ⟨e, h⟩ | ⟨_, h⟩
    · obtain rfl := beq_iff.1 e
      obtain ⟨h1, h2, h3⟩ := pRf_some h
      exact ⟨rfl, ok25, b, _, rfl, fun hpc => ⟨_, int1, h1 hpc⟩, h2, h3⟩
    · cases h
  · rename_i b
    rcases bifNone h with ⟨e, h⟩ | ⟨_, h⟩
    · obtain rfl := beq_iff.1 e
      obtain ⟨h1, h2, h3⟩ := pAf_some h
      exact ⟨rfl, ok22, b, _, rfl, fun hpc => ⟨_, nil0, h1 hpc⟩, h2, h3⟩
    · cases h
  · cases h
noncomputable def rdP : CallT := orP lP (orP rP fP)
noncomputable def rdC : CallT := callN bT rdP 1000 20
theorem rdC_ok : CallOk Try.prog rdC := sx_ok bT_ok bM (orP_ok lP_ok (orP_ok rP_ok fP_ok)) 1000 20
/-! the law BitsReads -/
noncomputable def L5 : Code := c1 (c1 (c2 (c1 (c2 (c2 (c2 (c2 (bodyOf 5))))))))
theorem wf5 : wf 110 L5 = true := by kernel_rfl
noncomputable def hL5 (m : Nat) (f : Nat → List AV) (a x : Int) (s : List Nat) : Tr AObj := mkH [hO m f, (1001, some (.cells 59 [.int true .i64 a, .str true s] false)), (1002, some (.cells 51 [.str true s, .int true .i64 x] false))]
noncomputable def e5 (m : Nat) (i : Int) : Tr AV := mkEnv 110 [(1, .osl 1000 m), (5, .ptr 1001 0), (6, .ptr 1002 0), (7, .int true .i64 i)]
noncomputable def s5 (m : Nat) (i : Int) (f : Nat → List AV) (a x : Int) (s : List Nat) (pc : Prop) (ch : List Bool) : St := ⟨e5 m i, ⟨hL5 m f a x s, 1003, pc, ch⟩, [], .no, []⟩
open Go.Proofs Go.Proofs.Yticfagianocfiaa Go.RowKit
set_option maxRecDepth 1000000
noncomputable def pc_x1 (m : Nat) (i a : Int) (d v n : Nat → Int) (u : Nat → List Nat) (s : List Nat) : Prop := ilt i ↑m = false ∧ ilt i ↑m = false ∧ ilt i ↑m = false ∧ True
noncomputable def pc_x2 (m : Nat) (i a : Int) (d v n : Nat → Int) (u : Nat → List Nat) (s : List Nat) : Prop := ilt i (100 : Int) = false ∧ ilt i ↑m = true ∧ ilt i ↑m = true ∧ ilt i ↑m = true ∧ True
noncomputable def pc_al (m : Nat) (i a : Int) (d v n : Nat → Int) (u : Nat → List Nat) (s : List Nat) : Prop := (!ieq (bitsM BinOp.andNot IntKind.i64 (wr IntKind.i64 (Int.add a (7 : Int))) (7 : Int)) ↑(up8 (Int.toNat a))) = false ∧ ieq ↑(up8 (Int.toNat a)) ↑(up8 (Int.toNat a)) = true ∧ ((51 : Nat) = (51 : Nat) ∧ false = false ∧ (0 : Int) ≤ a ∧ a < (1152921504606846976 : Int)) ∧ ieq (d (Int.toNat i)) (1 : Int) = true ∧ Nat.blt (Int.toNat i) m = true ∧ inB i m = true ∧ ilt i (100 : Int) = true ∧ ilt i ↑m = true ∧ ilt i ↑m = true ∧ ilt i ↑m = true ∧ True
noncomputable def pc_b1 (m : Nat) (i a : Int) (d v n : Nat → Int) (u : Nat → List Nat) (s : List Nat) : Prop := (!ieq (Int.add a (n (Int.toNat i))) (Int.add a (n (Int.toNat i)))) = false ∧ ieq (Int.add a (n (Int.toNat i))) (Int.add a (n (Int.toNat i))) = true ∧ (!ieq ↑(bitsAt s (Int.toNat a) (Int.toNat (n (Int.toNat i)))) ↑(bitsAt s (Int.toNat a) (Int.toNat (n (Int.toNat i))))) = false ∧ (!ieq ↑(bitsAt s (Int.toNat a) (Int.toNat (n (Int.toNat i)))) ↑(bitsAt s (Int.toNat a) (Int.toNat (n (Int.toNat i))))) = false ∧ (!ieq ↑(bitsAt s (Int.toNat a) (Int.toNat (n (Int.toNat i)))) ↑(bitsAt s (Int.toNat a) (Int.toNat (n (Int.toNat i))))) = false ∧ (!ieq ↑(bitsAt s (Int.toNat a) (Int.toNat (n (Int.toNat i)))) ↑(bitsAt s (Int.toNat a) (Int.toNat (n (Int.toNat i))))) = false ∧ ((51 : Nat) = (51 : Nat) ∧ false = false) ∧ fitN a (n (Int.toNat i)) s = true ∧ okN (n (Int.toNat i)) = true ∧ ((0 : Int) ≤ a ∧ a ≤ (8 : Int) * ↑(List.length s) ∧ List.length s ≤ (140737488355328 : Nat) ∧ ∀ (x : Nat), x ∈ s → x < (256 : Nat)) ∧ Nat.blt (Int.toNat i) m = true ∧ inB i m = true ∧ ((59 : Nat) = (59 : Nat) ∧ false = false) ∧ fitN a (n (Int.toNat i)) s = true ∧ okN (n (Int.toNat i)) = true ∧ ((0 : Int) ≤ a ∧ a ≤ (8 : Int) * ↑(List.length s) ∧ List.length s ≤ (140737488355328 : Nat) ∧ ∀ (x : Nat), x ∈ s → x < (256 : Nat)) ∧ Nat.blt (Int.toNat i) m = true ∧ inB i m = true ∧ ieq (d (Int.toNat i)) (2 : Int) = false ∧ ieq (d (Int.toNat i)) (1 : Int) = false ∧ Nat.blt (Int.toNat i) m = true ∧ inB i m = true ∧ ilt i (100 : Int) = true ∧ ilt i ↑m = true ∧ ilt i ↑m = true ∧ ilt i ↑m = true ∧ True
noncomputable def pc_b2 (m : Nat) (i a : Int) (d v n : Nat → Int) (u : Nat → List Nat) (s : List Nat) : Prop := (!ieq a a) = false ∧ ieq a a = true ∧ (!ieq ↑(0 : Nat) ↑(0 : Nat)) = false ∧ (!ieq ↑(0 : Nat) ↑(0 : Nat)) = false ∧ (!ieq ↑(0 : Nat) ↑(0 : Nat)) = false ∧ (!ieq ↑(0 : Nat) ↑(0 : Nat)) = false ∧ ((51 : Nat) = (51 : Nat) ∧ false = false) ∧ fitN a (n (Int.toNat i)) s = false ∧ okN (n (Int.toNat i)) = true ∧ ((0 : Int) ≤ a ∧ a ≤ (8 : Int) * ↑(List.length s) ∧ List.length s ≤ (140737488355328 : Nat) ∧ ∀ (x : Nat), x ∈ s → x < (256 : Nat)) ∧ Nat.blt (Int.toNat i) m = true ∧ inB i m = true ∧ ((59 : Nat) = (59 : Nat) ∧ false = false) ∧ fitN a (n (Int.toNat i)) s = false ∧ okN (n (Int.toNat i)) = true ∧ ((0 : Int) ≤ a ∧ a ≤ (8 : Int) * ↑(List.length s) ∧ List.length s ≤ (140737488355328 : Nat) ∧ ∀ (x : Nat), x ∈ s → x < (256 : Nat)) ∧ Nat.blt (Int.toNat i) m = true ∧ inB i m = true ∧ ieq (d (Int.toNat i)) (2 : Int) = false ∧ ieq (d (Int.toNat i)) (1 : Int) = false ∧ Nat.blt (Int.toNat i) m = true ∧ inB i m = true ∧ ilt i (100 : Int) = true ∧ ilt i ↑m = true ∧ ilt i ↑m = true ∧ ilt i ↑m = true ∧ True
noncomputable def pc_b3 (m : Nat) (i a : Int) (d v n : Nat → Int) (u : Nat → List Nat) (s : List Nat) : Prop := (!ieq a a) = false ∧ ieq a a = true ∧ (!ieq ↑(0 : Nat) ↑(0 : Nat)) = false ∧ (!ieq ↑(0 : Nat) ↑(0 : Nat)) = false ∧ (!ieq ↑(0 : Nat) ↑(0 : Nat)) = false ∧ (!ieq ↑(0 : Nat) ↑(0 : Nat)) = false ∧ ((51 : Nat) = (51 : Nat) ∧ false = false) ∧ okN (n (Int.toNat i)) = false ∧ ((0 : Int) ≤ a ∧ a ≤ (8 : Int) * ↑(List.length s) ∧ List.length s ≤ (140737488355328 : Nat) ∧ ∀ (x : Nat), x ∈ s → x < (256 : Nat)) ∧ Nat.blt (Int.toNat i) m = true ∧ inB i m = true ∧ ((59 : Nat) = (59 : Nat) ∧ false = false) ∧ okN (n (Int.toNat i)) = false ∧ ((0 : Int) ≤ a ∧ a ≤ (8 : Int) * ↑(List.length s) ∧ List.length s ≤ (140737488355328 : Nat) ∧ ∀ (x : Nat), x ∈ s → x < (256 : Nat)) ∧ Nat.blt (Int.toNat i) m = true ∧ inB i m = true ∧ ieq (d (Int.toNat i)) (2 : Int) = false ∧ ieq (d (Int.toNat i)) (1 : Int) = false ∧ Nat.blt (Int.toNat i) m = true ∧ inB i m = true ∧ ilt i (100 : Int) = true ∧ ilt i ↑m = true ∧ ilt i ↑m = true ∧ ilt i ↑m = true ∧ True
noncomputable def pc_y1 (m : Nat) (i a : Int) (d v n : Nat → Int) (u : Nat → List Nat) (s : List Nat) : Prop := (!ieq a a) = false ∧ ieq a a = true ∧ ilt (n (Int.toNat i)) (0 : Int) = true ∧ Nat.blt (Int.toNat i) m = true ∧ inB i m = true ∧ ilt (n (Int.toNat i)) (0 : Int) = true ∧ Nat.blt (Int.toNat i) m = true ∧ inB i m = true ∧ ieq (d (Int.toNat i)) (2 : Int) = true ∧ ieq (d (Int.toNat i)) (1 : Int) = false ∧ Nat.blt (Int.toNat i) m = true ∧ inB i m = true ∧ ilt i (100 : Int) = true ∧ ilt i ↑m = true ∧ ilt i ↑m = true ∧ ilt i ↑m = true ∧ True
noncomputable def pc_y2 (m : Nat) (i a : Int) (d v n : Nat → Int) (u : Nat → List Nat) (s : List Nat) : Prop := (!ieq (bitsM BinOp.andNot IntKind.i64 (wr IntKind.i64 (Int.add a (7 : Int))) (7 : Int)) ↑(up8 (Int.toNat a))) = false ∧ ieq ↑(up8 (Int.toNat a)) ↑(up8 (Int.toNat a)) = true ∧ ilt (wr IntKind.i64 (Int.sub (↑(List.length s)) (wr IntKind.i64 (Int.tdiv ↑(up8 (Int.toNat a)) (8 : Int))))) (n (Int.toNat i)) = true ∧ ((51 : Nat) = (51 : Nat) ∧ false = false ∧ (0 : Int) ≤ a ∧ a < (1152921504606846976 : Int)) ∧ ilt (n (Int.toNat i)) (0 : Int) = false ∧ Nat.blt (Int.toNat i) m = true ∧ inB i m = true ∧ ilt (↑(List.length (List.take (Int.toNat ↑(List.length s) - Int.toNat (wr IntKind.i64 (Int.tdiv (bitsM BinOp.andNot IntKind.i64 (wr IntKind.i64 (Int.add a (7 : Int))) (7 : Int)) (8 : Int)))) (List.drop (Int.toNat (wr IntKind.i64 (Int.tdiv (bitsM BinOp.andNot IntKind.i64 (wr IntKind.i64 (Int.add a (7 : Int))) (7 : Int)) (8 : Int)))) s)))) (n (Int.toNat i)) = true ∧ okCut (wr IntKind.i64 (Int.tdiv (bitsM BinOp.andNot IntKind.i64 (wr IntKind.i64 (Int.add a (7 : Int))) (7 : Int)) (8 : Int))) (↑(List.length s)) (List.length s) = true ∧ ilt (n (Int.toNat i)) (0 : Int) = false ∧ Nat.blt (Int.toNat i) m = true ∧ inB i m = true ∧ ieq (d (Int.toNat i)) (2 : Int) = true ∧ ieq (d (Int.toNat i)) (1 : Int) = false ∧ Nat.blt (Int.toNat i) m = true ∧ inB i m = true ∧ ilt i (100 : Int) = true ∧ ilt i ↑m = true ∧ ilt i ↑m = true ∧ ilt i ↑m = true ∧ True
noncomputable def pc_y3 (m : Nat) (i a : Int) (d v n : Nat → Int) (u : Nat → List Nat) (s : List Nat) : Prop := (!ieq (wr IntKind.i64 (Int.add (bitsM BinOp.andNot IntKind.i64 (wr IntKind.i64 (Int.add a (7 : Int))) (7 : Int)) (wr IntKind.i64 (Int.mul (8 : Int) (n (Int.toNat i)))))) (wr IntKind.i64 (Int.add (↑(up8 (Int.toNat a))) (wr IntKind.i64 (Int.mul (8 : Int) (n (Int.toNat i))))))) = false ∧ ieq (wr IntKind.i64 (Int.add (↑(up8 (Int.toNat a))) (wr IntKind.i64 (Int.mul (8 : Int) (n (Int.toNat i)))))) (wr IntKind.i64 (Int.add (↑(up8 (Int.toNat a))) (wr IntKind.i64 (Int.mul (8 : Int) (n (Int.toNat i)))))) = true ∧ (!sEq (List.take (Int.toNat (n (Int.toNat i)) - Int.toNat ↑(0 : Nat)) (List.drop (Int.toNat ↑(0 : Nat)) (List.take (Int.toNat ↑(List.length s) - Int.toNat (wr IntKind.i64 (Int.tdiv (bitsM BinOp.andNot IntKind.i64 (wr IntKind.i64 (Int.add a (7 : Int))) (7 : Int)) (8 : Int)))) (List.drop (Int.toNat (wr IntKind.i64 (Int.tdiv (bitsM BinOp.andNot IntKind.i64 (wr IntKind.i64 (Int.add a (7 : Int))) (7 : Int)) (8 : Int)))) s)))) (List.take (Int.toNat (wr IntKind.i64 (Int.add (wr IntKind.i64 (Int.tdiv ↑(up8 (Int.toNat a)) (8 : Int))) (n (Int.toNat i)))) - Int.toNat (wr IntKind.i64 (Int.tdiv ↑(up8 (Int.toNat a)) (8 : Int)))) (List.drop (Int.toNat (wr IntKind.i64 (Int.tdiv ↑(up8 (Int.toNat a)) (8 : Int)))) s))) = false ∧ (!sEq (List.take (Int.toNat (n (Int.toNat i)) - Int.toNat ↑(0 : Nat)) (List.drop (Int.toNat ↑(0 : Nat)) (List.take (Int.toNat ↑(List.length s) - Int.toNat (wr IntKind.i64 (Int.tdiv (bitsM BinOp.andNot IntKind.i64 (wr IntKind.i64 (Int.add a (7 : Int))) (7 : Int)) (8 : Int)))) (List.drop (Int.toNat (wr IntKind.i64 (Int.tdiv (bitsM BinOp.andNot IntKind.i64 (wr IntKind.i64 (Int.add a (7 : Int))) (7 : Int)) (8 : Int)))) s)))) (List.take (Int.toNat (wr IntKind.i64 (Int.add (wr IntKind.i64 (Int.tdiv ↑(up8 (Int.toNat a)) (8 : Int))) (n (Int.toNat i)))) - Int.toNat (wr IntKind.i64 (Int.tdiv ↑(up8 (Int.toNat a)) (8 : Int)))) (List.drop (Int.toNat (wr IntKind.i64 (Int.tdiv ↑(up8 (Int.toNat a)) (8 : Int)))) s))) = false ∧ (!sEq (List.take (Int.toNat (n (Int.toNat i)) - Int.toNat ↑(0 : Nat)) (List.drop (Int.toNat ↑(0 : Nat)) (List.take (Int.toNat ↑(List.length s) - Int.toNat (wr IntKind.i64 (Int.tdiv (bitsM BinOp.andNot IntKind.i64 (wr IntKind.i64 (Int.add a (7 : Int))) (7 : Int)) (8 : Int)))) (List.drop (Int.toNat (wr IntKind.i64 (Int.tdiv (bitsM BinOp.andNot IntKind.i64 (wr IntKind.i64 (Int.add a (7 : Int))) (7 : Int)) (8 : Int)))) s)))) (List.take (Int.toNat (wr IntKind.i64 (Int.add (wr IntKind.i64 (Int.tdiv ↑(up8 (Int.toNat a)) (8 : Int))) (n (Int.toNat i)))) - Int.toNat (wr IntKind.i64 (Int.tdiv ↑(up8 (Int.toNat a)) (8 : Int)))) (List.drop (Int.toNat (wr IntKind.i64 (Int.tdiv ↑(up8 (Int.toNat a)) (8 : Int)))) s))) = false ∧ (!sEq (List.take (Int.toNat (n (Int.toNat i)) - Int.toNat ↑(0 : Nat)) (List.drop (Int.toNat ↑(0 : Nat)) (List.take (Int.toNat ↑(List.length s) - Int.toNat (wr IntKind.i64 (Int.tdiv (bitsM BinOp.andNot IntKind.i64 (wr IntKind.i64 (Int.add a (7 : Int))) (7 : Int)) (8 : Int)))) (List.drop (Int.toNat (wr IntKind.i64 (Int.tdiv (bitsM BinOp.andNot IntKind.i64 (wr IntKind.i64 (Int.add a (7 : Int))) (7 : Int)) (8 : Int)))) s)))) (List.take (Int.toNat (wr IntKind.i64 (Int.add (wr IntKind.i64 (Int.tdiv ↑(up8 (Int.toNat a)) (8 : Int))) (n (Int.toNat i)))) - Int.toNat (wr IntKind.i64 (Int.tdiv ↑(up8 (Int.toNat a)) (8 : Int)))) (List.drop (Int.toNat (wr IntKind.i64 (Int.tdiv ↑(up8 (Int.toNat a)) (8 : Int)))) s))) = false ∧ okCut (wr IntKind.i64 (Int.tdiv ↑(up8 (Int.toNat a)) (8 : Int))) (wr IntKind.i64 (Int.add (wr IntKind.i64 (Int.tdiv ↑(up8 (Int.toNat a)) (8 : Int))) (n (Int.toNat i)))) (List.length s) = true ∧ ilt (wr IntKind.i64 (Int.sub (↑(List.length s)) (wr IntKind.i64 (Int.tdiv ↑(up8 (Int.toNat a)) (8 : Int))))) (n (Int.toNat i)) = false ∧ ((51 : Nat) = (51 : Nat) ∧ false = false ∧ (0 : Int) ≤ a ∧ a < (1152921504606846976 : Int)) ∧ ilt (n (Int.toNat i)) (0 : Int) = false ∧ Nat.blt (Int.toNat i) m = true ∧ inB i m = true ∧ okCut (↑(0 : Nat)) (n (Int.toNat i)) (List.length (List.take (Int.toNat ↑(List.length s) - Int.toNat (wr IntKind.i64 (Int.tdiv (bitsM BinOp.andNot IntKind.i64 (wr IntKind.i64 (Int.add a (7 : Int))) (7 : Int)) (8 : Int)))) (List.drop (Int.toNat (wr IntKind.i64 (Int.tdiv (bitsM BinOp.andNot IntKind.i64 (wr IntKind.i64 (Int.add a (7 : Int))) (7 : Int)) (8 : Int)))) s))) = true ∧ ilt (↑(List.length (List.take (Int.toNat ↑(List.length s) - Int.toNat (wr IntKind.i64 (Int.tdiv (bitsM BinOp.andNot IntKind.i64 (wr IntKind.i64 (Int.add a (7 : Int))) (7 : Int)) (8 : Int)))) (List.drop (Int.toNat (wr IntKind.i64 (Int.tdiv (bitsM BinOp.andNot IntKind.i64 (wr IntKind.i64 (Int.add a (7 : Int))) (7 : Int)) (8 : Int)))) s)))) (n (Int.toNat i)) = false ∧ okCut (wr IntKind.i64 (Int.tdiv (bitsM BinOp.andNot IntKind.i64 (wr IntKind.i64 (Int.add a (7 : Int))) (7 : Int)) (8 : Int))) (↑(List.length s)) (List.length s) = true ∧ ilt (n (Int.toNat i)) (0 : Int) = false ∧ Nat.blt (Int.toNat i) m = true ∧ inB i m = true ∧ ieq (d (Int.toNat i)) (2 : Int) = true ∧ ieq (d (Int.toNat i)) (1 : Int) = false ∧ Nat.blt (Int.toNat i) m = true ∧ inB i m = true ∧ ilt i (100 : Int) = true ∧ ilt i ↑m = true ∧ ilt i ↑m = true ∧ ilt i ↑m = true ∧ True
theorem w_rx1 (m : Nat) (i a : Int) (d v n : Nat → Int) (u : Nat → List Nat) (s : List Nat) : wkX 110 [1, 5, 6, 7] mA 1003 (exec L5 bT rdC 1000 (s5 m i (opF d v n u) a a s True [false,false,false])) = some (.exit 0, s5 m i (opF d v n u) a a s (pc_x1 m i a d v n u s) []) := by kernel_rfl
theorem w_rx2 (m : Nat) (i a : Int) (d v n : Nat → Int) (u : Nat → List Nat) (s : List Nat) : wkX 110 [1, 5, 6, 7] mA 1003 (exec L5 bT rdC 1000 (s5 m i (opF d v n u) a a s True [true,true,true,false])) = some (.exit 0, s5 m i (opF d v n u) a a s (pc_x2 m i a d v n u s) []) := by kernel_rfl
theorem w_ral (m : Nat) (i a : Int) (d v n : Nat → Int) (u : Nat → List Nat) (s : List Nat) : wkX 110 [1, 5, 6, 7] mA 1003 (exec L5 bT rdC 1000 (s5 m i (opF d v n u) a a s True [true,true,true,true,true,false])) = some (.normal, s5 m (wr .i64 (i.add 1)) (opF d v n u) (anN a) (up8 a.toNat : Nat) s (pc_al m i a d v n u s) []) := by kernel_rfl
theorem w_rb1 (m : Nat) (i a : Int) (d v n : Nat → Int) (u : Nat → List Nat) (s : List Nat) : wkX 110 [1, 5, 6, 7] mA 1003 (exec L5 bT rdC 1000 (s5 m i (opF d v n u) a a s True [true,true,true,true,false,false,true,true,true,true,false,false,false,false,false])) = some (.normal, s5 m (wr .i64 (i.add 1)) (opF d v n u) (a.add (n i.toNat)) (a.add (n i.toNat)) s (pc_b1 m i a d v n u s) []) := by kernel_rfl
theorem w_rb2 (m : Nat) (i a : Int) (d v n : Nat → Int) (u : Nat → List Nat) (s : List Nat) : wkX 110 [1, 5, 6, 7] mA 1003 (exec L5 bT rdC 1000 (s5 m i (opF d v n u) a a s True [true,true,true,true,false,false,true,false,true,false,false,false,false,false,false])) = some (.normal, s5 m (wr .i64 (i.add 1)) (opF d v n u) a a s (pc_b2 m i a d v n u s) []) := by kernel_rfl
theorem w_rb3 (m : Nat) (i a : Int) (d v n : Nat → Int) (u : Nat → List Nat) (s : List Nat) : wkX 110 [1, 5, 6, 7] mA 1003 (exec L5 bT rdC 1000 (s5 m i (opF d v n u) a a s True [true,true,true,true,false,false,false,false,false,false,false,false,false])) = some (.normal, s5 m (wr .i64 (i.add 1)) (opF d v n u) a a s (pc_b3 m i a d v n u s) []) := by kernel_rfl
theorem w_ry1 (m : Nat) (i a : Int) (d v n : Nat → Int) (u : Nat → List Nat) (s : List Nat) : wkX 110 [1, 5, 6, 7] mA 1003 (exec L5 bT rdC 1000 (s5 m i (opF d v n u) a a s True [true,true,true,true,false,true,true,true,false])) = some (.normal, s5 m (wr .i64 (i.add 1)) (opF d v n u) a a s (pc_y1 m i a d v n u s) []) := by kernel_rfl
theorem w_ry2 (m : Nat) (i a : Int) (d v n : Nat → Int) (u : Nat → List Nat) (s : List Nat) : wkX 110 [1, 5, 6, 7] mA 1003 (exec L5 bT rdC 1000 (s5 m i (opF d v n u) a a s True [true,true,true,true,false,true,false,true,false,true,false])) = some (.normal, s5 m (wr .i64 (i.add 1)) (opF d v n u) (anN a) (up8 a.toNat : Nat) s (pc_y2 m i a d v n u s) []) := by kernel_rfl
theorem w_ry3 (m : Nat) (i a : Int) (d v n : Nat → Int) (u : Nat → List Nat) (s : List Nat) : wkX 110 [1, 5, 6, 7] mA 1003 (exec L5 bT rdC 1000 (s5 m i (opF d v n u) a a s True [true,true,true,true,false,true,false,false,false,false,false,false,false,false,false])) = some (.normal, s5 m (wr .i64 (i.add 1)) (opF d v n u) (wr .i64 ((anN a).add (wr .i64 (Int.mul 8 (n i.toNat))))) (wr .i64 (Int.add (up8 a.toNat : Nat) (wr .i64 (Int.mul 8 (n i.toNat))))) s (pc_y3 m i a d v n u s) []) := by kernel_rfl
/-- what a reader may stand at -/
def RdOk (a : Nat) (s : List Nat) : Prop := a ≤ 8 * s.length ∧ s.length ≤ 140737488355328 ∧ ∀ x ∈ s, x < 256
theorem sim_false (x : Bool) (h : x = true) : (!x) = false := by rw [h]; rfl
section
variable {ρ0 : Rn} {H0 : Nat → Option AObj} {w0 : World} {act : Act} {w : World}
theorem read_round {m a i : Nat} {d v n : Nat → Int} {u : Nat → List Nat} {s : List Nat} (hr : RdOk a s) (hi : i < 2 ^ 50) (hs : SL Try.prog 110 [] ρ0 H0 w0 (s5 m i (opF d v n u) a a s True []) act w) :
    L5.wp Try.prog (fun x a' w' => (x = .exit 0 ∧ SL Try.prog 110 [] ρ0 H0 w0 (s5 m i (opF d v n u) a a s True []) a' w') ∨
      (x = .normal ∧ i < 100 ∧ ∃ a1, RdOk a1 s ∧ SL Try.prog 110 [] ρ0 H0 w0 (s5 m ((i + 1 : Nat) : Int) (opF d v n u) (a1 : Nat) (a1 : Nat) s True []) a' w')) act w := by
  obtain ⟨ha, hl, hb⟩ := hr
  have e1 : wr .i64 (Int.add (i : Int) 1) = ((i + 1 : Nat) : Int) := by show wr .i64 ((i : Int) + 1) = _; rw [wr_i64 (by omega) (by omega)]; omega
  have hj : (i : Int).toNat = i := Int.toNat_natCast i
  have hat : (a : Int).toNat = a := Int.toNat_natCast a
  have qa : (!ieq (a : Int) (a : Int)) = false := sim_false _ (ieq_t rfl)
  have qa2 : ieq (a : Int) (a : Int) = true := ieq_t rfl
  have r0 : (0 : Int) ≤ (a : Int) ∧ (a : Int) ≤ 8 * (s.length : Int) ∧ s.length ≤ 140737488355328 ∧ ∀ x ∈ s, x < 256 := ⟨by omega, by omega, hl, hb⟩
  have q0 : (!ieq ((0 : Nat) : Int) ((0 : Nat) : Int)) = false := rfl
  rcases Nat.lt_or_ge i m with him | him
  · have t1 : ilt (i : Int) (m : Int) = true := ilt_t (by omega)
    have t3 : inB (i : Int) m = true := inB_t (by omega) (by omega)
    have t4 : Nat.blt (Int.toNat (i : Int)) m = true := blt_t (by rw [hj]; exact him)
    rcases Nat.lt_or_ge i 100 with hi1 | hi1
    · have t2 : ilt (i : Int) 100 = true := ilt_t (by omega)
      have hA : bitsM .andNot .i64 (wr .i64 (Int.add (a : Int) 7)) 7 = ((up8 a : Nat) : Int) := anN_nat a (by omega)
      have hA' : anN (a : Int) = ((up8 a : Nat) : Int) := hA
      have hup : up8 a ≤ 8 * s.length := by unfold up8; omega
      by_cases hd1 : d i = 1
      · have t6 : ieq (d (Int.toNat (i : Int))) 1 = true := by rw [hj]; exact ieq_t hd1
        have e0 := w_ral m i a d v n u s
        rw [e1, hA', hat] at e0
        refine wp_mono (exec_sl bT_ok bM rdC_ok wf5 e0 okA (fun v h => by cases h) ?_ rfl rfl (kF _ _) (hs.alike rfl rfl rfl)) ?_
        · show pc_al m i a d v n u s
          unfold pc_al
          rw [hA, hat]
          exact ⟨sim_false _ (ieq_t rfl), ieq_t rfl, ⟨rfl, rfl, by omega, by omega⟩, t6, t4, t3, t2, t1, t1, t1, trivial⟩
        · exact fun x a' w' ⟨h1, h2⟩ => .inr ⟨h1.normal, hi1, up8 a, ⟨hup, hl, hb⟩, h2.alike rfl rfl rfl⟩
      · have t6 : ieq (d (Int.toNat (i : Int))) 1 = false := by rw [hj]; exact ieq_f hd1
        by_cases hd2 : d i = 2
        · have t7 : ieq (d (Int.toNat (i : Int))) 2 = true := by rw [hj]; exact ieq_t hd2
          by_cases hn : n i < 0
          · have tn : ilt (n (Int.toNat (i : Int))) 0 = true := by rw [hj]; exact ilt_t hn
            have e0 := w_ry1 m i a d v n u s
            rw [e1] at e0
            refine wp_mono (exec_sl bT_ok bM rdC_ok wf5 e0 okA (fun v h => by cases h) ⟨qa, qa2, tn, t4, t3, tn, t4, t3, t7, t6, t4, t3, t2, t1, t1, t1, trivial⟩ rfl rfl (kF _ _) (hs.alike rfl rfl rfl)) ?_
            exact fun x a' w' ⟨h1, h2⟩ => .inr ⟨h1.normal, hi1, a, ⟨ha, hl, hb⟩, h2.alike rfl rfl rfl⟩
          · have tn : ilt (n (Int.toNat (i : Int))) 0 = false := by rw [hj]; exact ilt_f (by omega)
            obtain ⟨k, hk⟩ := Int.eq_ofNat_of_zero_le (by omega : 0 ≤ n i)
            have hnk : n (Int.toNat (i : Int)) = (k : Int) := by rw [hj]; exact hk
            obtain ⟨q, hq⟩ : ∃ q, q = (a + 7) / 8 := ⟨_, rfl⟩
            have hu : up8 a = q * 8 := by rw [hq]; rfl
            have hql : q ≤ s.length := by omega
            have hT : wr .i64 (Int.tdiv ((up8 a : Nat) : Int) 8) = (q : Int) := by
              rw [hu]
              have : Int.tdiv ((q * 8 : Nat) : Int) 8 = ((q * 8 / 8 : Nat) : Int) := rfl
              rw [this, Nat.mul_div_cancel _ (by omega), wr_i64 (by omega) (by omega)]
            have hsl : (s.length : Int).toNat = s.length := Int.toNat_natCast _
            have hqn : (q : Int).toNat = q := Int.toNat_natCast _
            have hlen : (List.take (s.length - q) (List.drop q s)).length = s.length - q := by rw [List.length_take, List.length_drop, Nat.min_self]
            have hsub : wr .i64 (Int.sub (s.length : Int) (q : Int)) = ((s.length - q : Nat) : Int) := by
              show wr .i64 ((s.length : Int) - (q : Int)) = _
              rw [wr_i64 (by omega) (by omega)]; omega
            have oc1 : okCut (q : Int) (s.length : Int) s.length = true := by
              unfold okCut
              rw [ilt_f (by omega), ilt_f (by omega), ilt_f (by omega)]; rfl
            by_cases hfit : k ≤ s.length - q
            · have e0 := w_ry3 m i a d v n u s
              have h8k : wr .i64 (Int.mul 8 (k : Int)) = ((8 * k : Nat) : Int) := by show wr .i64 (8 * (k : Int)) = _; rw [wr_i64 (by omega) (by omega)]; omega
              have hst : wr .i64 (Int.add ((up8 a : Nat) : Int) ((8 * k : Nat) : Int)) = ((up8 a + 8 * k : Nat) : Int) := by
                show wr .i64 (((up8 a : Nat) : Int) + ((8 * k : Nat) : Int)) = _
                rw [wr_i64 (by omega) (by omega)]; omega
              rw [e1, hA', hat, hnk, h8k, hst] at e0
              refine wp_mono (exec_sl bT_ok bM rdC_ok wf5 e0 okA (fun v h => by cases h) ?_ rfl rfl (kF _ _) (hs.alike rfl rfl rfl)) ?_
              · have hqk : wr .i64 (Int.add (q : Int) (k : Int)) = ((q + k : Nat) : Int) := by
                  show wr .i64 ((q : Int) + (k : Int)) = _
                  rw [wr_i64 (by omega) (by omega)]; omega
                have oc2 : okCut ((0 : Nat) : Int) (k : Int) (s.length - q) = true := by
                  unfold okCut
                  rw [ilt_f (by omega), ilt_f (by omega), ilt_f (by omega)]; rfl
                have oc3 : okCut (q : Int) ((q + k : Nat) : Int) s.length = true := by
                  unfold okCut
                  rw [ilt_f (by omega), ilt_f (by omega), ilt_f (by omega)]; rfl
                have hkk : (k : Int).toNat = k := Int.toNat_natCast _
                have hqk2 : ((q + k : Nat) : Int).toNat = q + k := Int.toNat_natCast _
                have h00 : (((0 : Nat) : Int)).toNat = 0 := rfl
                have eqs : List.take k (List.drop 0 (List.take (s.length - q) (List.drop q s))) = List.take (q + k - q) (List.drop q s) := by
                  rw [List.drop_zero, List.take_take, Nat.min_eq_left hfit, Nat.add_sub_cancel_left]
                have zz : (!sEq (List.take k (List.drop 0 (List.take (s.length - q) (List.drop q s)))) (List.take (q + k - q) (List.drop q s))) = false := by
                  rw [eqs]; exact sim_false _ (sEq_self _)
                have i1 : ilt ((s.length - q : Nat) : Int) (k : Int) = false := ilt_f (by omega)
                have hk0 : k - 0 = k := rfl
                show pc_y3 m i a d v n u s
                rw [hnk] at tn
                unfold pc_y3
                rw [hA, hat, hnk, h8k, hst, hT, hsl, hqn, hsub, hqk, hqk2, hkk, h00, hlen, hk0]
                exact ⟨sim_false _ (ieq_t rfl), ieq_t rfl, zz, zz, zz, zz, oc3, i1, ⟨rfl, rfl, by omega, by omega⟩, tn, t4, t3, oc2, i1, oc1, tn, t4, t3, t7, t6, t4, t3, t2, t1, t1, t1, trivial⟩
              · exact fun x a' w' ⟨h1, h2⟩ => .inr ⟨h1.normal, hi1, up8 a + 8 * k, ⟨by omega, hl, hb⟩, h2.alike rfl rfl rfl⟩
            · have e0 := w_ry2 m i a d v n u s
              rw [e1, hA', hat] at e0
              refine wp_mono (exec_sl bT_ok bM rdC_ok wf5 e0 okA (fun v h => by cases h) ?_ rfl rfl (kF _ _) (hs.alike rfl rfl rfl)) ?_
              · have i1 : ilt ((s.length - q : Nat) : Int) (k : Int) = true := ilt_t (by omega)
                show pc_y2 m i a d v n u s
                rw [hnk] at tn
                unfold pc_y2
                rw [hA, hat, hnk, hT, hsl, hqn, hsub, hlen]
                exact ⟨sim_false _ (ieq_t rfl), ieq_t rfl, i1, ⟨rfl, rfl, by omega, by omega⟩, tn, t4, t3, i1, oc1, tn, t4, t3, t7, t6, t4, t3, t2, t1, t1, t1, trivial⟩
              · exact fun x a' w' ⟨h1, h2⟩ => .inr ⟨h1.normal, hi1, up8 a, ⟨hup, hl, hb⟩, h2.alike rfl rfl rfl⟩
        · have t7 : ieq (d (Int.toNat (i : Int))) 2 = false := by rw [hj]; exact ieq_f hd2
          by_cases hok : okN (n i) = true
          · have o1 : okN (n (Int.toNat (i : Int))) = true := by rw [hj]; exact hok
            obtain ⟨hn0, hn1⟩ := (okN_iff _).1 hok
            obtain ⟨k, hk⟩ := Int.eq_ofNat_of_zero_le hn0
            have hnk : n (Int.toNat (i : Int)) = (k : Int) := by rw [hj]; exact hk
            by_cases hfit : a + k ≤ 8 * s.length
            · have f1 : fitN (a : Int) (n (Int.toNat (i : Int))) s = true := by rw [hnk]; exact fit_t hfit
              have e0 := w_rb1 m i a d v n u s
              have hs2 : Int.add (a : Int) (n (Int.toNat (i : Int))) = ((a + k : Nat) : Int) := by rw [hnk]; rfl
              rw [e1, hs2] at e0
              refine wp_mono (exec_sl bT_ok bM rdC_ok wf5 e0 okA (fun v h => by cases h) ?_ rfl rfl (kF _ _) (hs.alike rfl rfl rfl)) ?_
              · have z : ∀ y : Int, (!ieq y y) = false := fun y => sim_false _ (ieq_t rfl)
                exact ⟨z _, ieq_t rfl, z _, z _, z _, z _, ⟨rfl, rfl⟩, f1, o1, r0, t4, t3, ⟨rfl, rfl⟩, f1, o1, r0, t4, t3, t7, t6, t4, t3, t2, t1, t1, t1, trivial⟩
              · exact fun x a' w' ⟨h1, h2⟩ => .inr ⟨h1.normal, hi1, a + k, ⟨hfit, hl, hb⟩, h2.alike rfl rfl rfl⟩
            · have f1 : fitN (a : Int) (n (Int.toNat (i : Int))) s = false := by rw [hnk]; exact fit_f hfit
              have e0 := w_rb2 m i a d v n u s
              rw [e1] at e0
              refine wp_mono (exec_sl bT_ok bM rdC_ok wf5 e0 okA (fun v h => by cases h) ⟨qa, qa2, q0, q0, q0, q0, ⟨rfl, rfl⟩, f1, o1, r0, t4, t3, ⟨rfl, rfl⟩, f1, o1, r0, t4, t3, t7, t6, t4, t3, t2, t1, t1, t1, trivial⟩ rfl rfl (kF _ _) (hs.alike rfl rfl rfl)) ?_
              exact fun x a' w' ⟨h1, h2⟩ => .inr ⟨h1.normal, hi1, a, ⟨ha, hl, hb⟩, h2.alike rfl rfl rfl⟩
          · have o1 : okN (n (Int.toNat (i : Int))) = false := by
              rw [hj]
              cases hx : okN (n i) with
              | false => rfl
              | true => exact absurd hx hok
            have e0 := w_rb3 m i a d v n u s
            rw [e1] at e0
            refine wp_mono (exec_sl bT_ok bM rdC_ok wf5 e0 okA (fun v h => by cases h) ⟨qa, qa2, q0, q0, q0, q0, ⟨rfl, rfl⟩, o1, r0, t4, t3, ⟨rfl, rfl⟩, o1, r0, t4, t3, t7, t6, t4, t3, t2, t1, t1, t1, trivial⟩ rfl rfl (kF _ _) (hs.alike rfl rfl rfl)) ?_
            exact fun x a' w' ⟨h1, h2⟩ => .inr ⟨h1.normal, hi1, a, ⟨ha, hl, hb⟩, h2.alike rfl rfl rfl⟩
    · have t2 : ilt (i : Int) 100 = false := ilt_f (by omega)
      refine wp_mono (exec_sl bT_ok bM rdC_ok wf5 (w_rx2 m i a d v n u s) okA (fun v h => by cases h) ⟨t2, t1, t1, t1, trivial⟩ rfl rfl (kF _ _) (hs.alike rfl rfl rfl)) ?_
      exact fun x a' w' ⟨h1, h2⟩ => .inl ⟨h1.exit, h2.alike rfl rfl rfl⟩
  · have t1 : ilt (i : Int) (m : Int) = false := ilt_f (by omega)
    refine wp_mono (exec_sl bT_ok bM rdC_ok wf5 (w_rx1 m i a d v n u s) okA (fun v h => by cases h) ⟨t1, t1, t1, trivial⟩ rfl rfl (kF _ _) (hs.alike rfl rfl rfl)) ?_
    exact fun x a' w' ⟨h1, h2⟩ => .inl ⟨h1.exit, h2.alike rfl rfl rfl⟩
end
open Go.Proofs Go.Proofs.Yticfagianocfiaa Go.RowKit
set_option maxRecDepth 1000000
noncomputable def R5a : Code := c1 (bodyOf 5)
noncomputable def R5b : Code := c1 (c2 (bodyOf 5))
noncomputable def R5c : Code := c1 (c2 (c2 (bodyOf 5)))
noncomputable def R5d : Code := c1 (c2 (c2 (c2 (bodyOf 5))))
noncomputable def R5e : Code := c1 (c1 (c2 (c2 (c2 (c2 (bodyOf 5))))))
noncomputable def Z5 : Code := c2 (c2 (c2 (c2 (c2 (bodyOf 5)))))
theorem body5 : bodyOf 5 = .seq R5a (.seq R5b (.seq R5c (.seq R5d (.seq (.seq R5e (.block 0 (.loop L5))) Z5)))) := by kernel_rfl
theorem wf5' : wf 110 R5a = true ∧ wf 110 R5b = true ∧ wf 110 R5c = true ∧ wf 110 R5d = true ∧ wf 110 R5e = true ∧ wf 110 Z5 = true := ⟨by kernel_rfl, by kernel_rfl, by kernel_rfl, by kernel_rfl, by kernel_rfl, by kernel_rfl⟩
theorem fits5 : Try.f5.body = some (bodyOf 5) ∧ Try.f5.ntmps = 110 := ⟨by kernel_rfl, by kernel_rfl⟩
noncomputable def h5b (m : Nat) (f : Nat → List AV) (s : List Nat) : Tr AObj := mkH [hO m f, (1001, some (.cells 59 [.int false .i64 0, .str true s] false))]
noncomputable def h5c (m : Nat) (f : Nat → List AV) (s : List Nat) : Tr AObj := mkH [hO m f, (1001, some (.cells 59 [.int false .i64 0, .str true s] false)), (1002, some (.cells 51 [.str true s, .int false .i64 0] false))]
noncomputable def st5 (l : List (Nat × AV)) (h : Tr AObj) (nx : Nat) : St := ⟨mkEnv 110 l, ⟨h, nx, True, []⟩, [], .no, []⟩
theorem w5a (m : Nat) (d v n : Nat → Int) (u : Nat → List Nat) (s : List Nat) : wkX 110 [0, 1] ma0 1001 (exec R5a bT bC 1000 ⟨argsEnv [.str true s, .osl 1000 m] 0 .e, g0 m (opF d v n u), [], .no, []⟩) = some (.normal, st5 [(0, .str true s), (1, .osl 1000 m)] (mkH [hO m (opF d v n u)]) 1001) := by kernel_rfl
theorem w5b (m : Nat) (d v n : Nat → Int) (u : Nat → List Nat) (s : List Nat) : wkX 110 [0, 1, 5] ma1 1002 (exec R5b bT bC 1000 (st5 [(0, .str true s), (1, .osl 1000 m)] (mkH [hO m (opF d v n u)]) 1001)) = some (.normal, st5 [(0, .str true s), (1, .osl 1000 m), (5, .ptr 1001 0)] (h5b m (opF d v n u) s) 1002) := by kernel_rfl
theorem w5c (m : Nat) (d v n : Nat → Int) (u : Nat → List Nat) (s : List Nat) : wkX 110 [1, 5, 6] mA 1003 (exec R5c bT bC 1000 (st5 [(0, .str true s), (1, .osl 1000 m), (5, .ptr 1001 0)] (h5b m (opF d v n u) s) 1002)) = some (.normal, st5 [(1, .osl 1000 m), (5, .ptr 1001 0), (6, .ptr 1002 0)] (h5c m (opF d v n u) s) 1003) := by kernel_rfl
theorem w5d (m : Nat) (d v n : Nat → Int) (u : Nat → List Nat) (s : List Nat) : wkX 110 [1, 5, 6] mA 1003 (exec R5d bT bC 1000 (st5 [(1, .osl 1000 m), (5, .ptr 1001 0), (6, .ptr 1002 0)] (h5c m (opF d v n u) s) 1003)) = some (.normal, st5 [(1, .osl 1000 m), (5, .ptr 1001 0), (6, .ptr 1002 0)] (h5c m (opF d v n u) s) 1003) := by kernel_rfl
theorem w5e (m : Nat) (d v n : Nat → Int) (u : Nat → List Nat) (s : List Nat) : wkX 110 [1, 5, 6, 7] mA 1003 (exec R5e bT bC 1000 (st5 [(1, .osl 1000 m), (5, .ptr 1001 0), (6, .ptr 1002 0)] (h5c m (opF d v n u) s) 1003)) = some (.normal, st5 [(1, .osl 1000 m), (5, .ptr 1001 0), (6, .ptr 1002 0), (7, .int false .i64 0)] (h5c m (opF d v n u) s) 1003) := by kernel_rfl
noncomputable def r5 (m : Nat) (f : Nat → List AV) (a x : Int) (s : List Nat) : St := ⟨mkEnv 110 [(4, .bool false true)], ⟨hL5 m f a x s, 1003, True, []⟩, [], .no, []⟩
theorem w5z (m : Nat) (i a x : Int) (d v n : Nat → Int) (u : Nat → List Nat) (s : List Nat) : wkX 110 [4] mA 1003 (exec Z5 bT rdC 1000 (s5 m i (opF d v n u) a x s True [])) = some (.ret, r5 m (opF d v n u) a x s) := by kernel_rfl
theorem res5 (g : G) : SX.results bT (mkEnv 110 [(4, .bool false true)]) g Try.f5.results.toList = some [.bool false true] := by kernel_rfl
theorem mkH3_get (x y z : Option AObj) (b : Nat) : (mkH [(1000, x), (1001, y), (1002, z)]).get b = if b = 1000 then x else if b = 1001 then y else if b = 1002 then z else none := by
  have e : mkH [(1000, x), (1001, y), (1002, z)] = (((Tr.e : Tr AObj).put 1002 z).put 1001 y).put 1000 x := rfl
  rw [e, get_put _ _ _ _ (by omega), get_put _ _ _ _ (by omega), get_put _ _ _ _ (by omega), get_e]
theorem h5_turn {P : Program} {m : Nat} {f : Nat → List AV} {s : List Nat} : ∀ b o', (hL5 m f 0 0 s).get b = some o' → ∃ o, (h5c m f s).get b = some o ∧ (o'.fixed = false → o.fixed = false) ∧ ∀ (ρ : Rn) (D : Nat → Prop) (r : Obj), OR P ρ D b o r → OR P ρ D b o' r := by
  intro b o' h
  have e1 : hL5 m f 0 0 s = mkH [(1000, some (.rows 44 4 m f)), (1001, some (.cells 59 [.int true .i64 0, .str true s] false)), (1002, some (.cells 51 [.str true s, .int true .i64 0] false))] := rfl
  have e2 : h5c m f s = mkH [(1000, some (.rows 44 4 m f)), (1001, some (.cells 59 [.int false .i64 0, .str true s] false)), (1002, some (.cells 51 [.str true s, .int false .i64 0] false))] := rfl
  rw [e1, mkH3_get] at h
  rw [e2, mkH3_get]
  by_cases c0 : b = 1000
  · rw [if_pos c0] at h ⊢; injection h with h; subst h; exact ⟨_, rfl, id, fun _ _ _ h => h⟩
  · rw [if_neg c0] at h ⊢
    by_cases c1 : b = 1001
    · rw [if_pos c1] at h ⊢
      injection h with h
      subst h
      exact ⟨_, rfl, fun _ => rfl, fun ρ D r ho => two_or (u := .int false .i64 0) (v := .str true s) (u' := .int true .i64 0) (v' := .str true s) (show _ ∧ _ from ⟨rfl, rfl⟩) (show s = s from rfl) ho⟩
    · rw [if_neg c1] at h ⊢
      by_cases c2 : b = 1002
      · rw [if_pos c2] at h ⊢
        injection h with h
        subst h
        exact ⟨_, rfl, fun _ => rfl, fun ρ D r ho => two_or (u := .str true s) (v := .int false .i64 0) (u' := .str true s) (v' := .int true .i64 0) (show s = s from rfl) (show _ ∧ _ from ⟨rfl, rfl⟩) ho⟩
      · rw [if_neg c2] at h; cases h
section
variable {ρ0 : Rn} {H0 : Nat → Option AObj} {w0 : World} {act : Act} {w : World}
theorem read_loop {m : Nat} {d v n : Nat → Int} {u : Nat → List Nat} {s : List Nat} (hl : s.length ≤ 140737488355328) (hb : ∀ x ∈ s, x < 256) (hs : SL Try.prog 110 [] ρ0 H0 w0 (s5 m 0 (opF d v n u) 0 0 s True []) act w) :
    (Code.block 0 (.loop L5)).wp Try.prog (fun x a' w' => x = .normal ∧ ∃ a i : Nat, SL Try.prog 110 [] ρ0 H0 w0 (s5 m i (opF d v n u) a a s True []) a' w') act w := by
  refine wp_block (loop_sl (ι := Nat × Nat) (fun i => s5 m i.2 (opF d v n u) i.1 i.1 s True []) (fun i => RdOk i.1 s ∧ i.2 ≤ 100) (fun i => 100 - i.2) (0, 0) ⟨⟨Nat.zero_le _, hl, hb⟩, Nat.zero_le _⟩ (hs.alike rfl rfl rfl) ?_)
  rintro ⟨a, i⟩ ⟨h1, h2⟩ act w hs
  simp only at h1 h2
  have h4 : i < 2 ^ 50 := by omega
  refine wp_mono (read_round h1 h4 hs) ?_
  rintro x a' w' (⟨rfl, hs'⟩ | ⟨rfl, hi, a1, q1, hs'⟩)
  · exact ⟨rfl, a, i, hs'⟩
  · have g2 : i + 1 ≤ 100 := hi
    have g3 : 100 - (i + 1) < 100 - i := by omega
    exact ⟨(a1, i + 1), ⟨q1, g2⟩, g3, hs'⟩
end
/-- BitsReads: it returns true -/
theorem bitsReads_calls {ρ : Rn} {W : World} {x y : Value} (m : Nat) (d v n : Nat → Int) (u : Nat → List Nat) (s : List Nat) (hl : s.length ≤ 140737488355328) (hb : ∀ x ∈ s, x < 256) (hg : Gl ρ 1001) (hy : VR ρ (Dm N0 1001) (.str true s) y) (hx : VR ρ (Dm N0 1001) (.osl 1000 m) x) (hw : GR Try.prog ρ (Dm N0 1001) (mkH [hO m (opF d v n u)]).get W) :
    Calls Try.prog 5 #[y, x] W fun e W' => e = .returned (.bool true) ∧ Below W.heap.size W W' := by
  have hH : ∀ b o, (mkH [hO m (opF d v n u)]).get b = some o → o.fixed = true := by
    intro b o hb
    have e : mkH [hO m (opF d v n u)] = (Tr.e : Tr AObj).put 1000 (some (.rows 44 4 m (opF d v n u))) := rfl
    rw [e, get_put _ _ _ _ (by omega), get_e] at hb
    split at hb
    · injection hb with hb; subst hb; rfl
    · cases hb
  refine (calls_sl (F := []) (g := g0 m (opF d v n u)) (ρ := ρ) (w := W) (vs := [y, x]) (args := [.str true s, .osl 1000 m]) bT_ok Try.func5 fits5.1 (by rw [fits5.2]; show 2 ≤ 110; omega) (by rw [fits5.2]; omega)
    (R := fun st' l => l = [.bool false true]) (fun b hb => by cases hb) hg (LR.cons hy (LR.cons hx (LR.nil _ _))) hw ?_).mono ?_
  · intro act hs
    rw [fits5.2] at hs ⊢
    rw [body5]
    refine wp_seq (wp_mono (exec_sl bT_ok bM bC_ok wf5'.1 (w5a m d v n u s) okm0 (fun v h => by cases h) trivial rfl rfl (kF _ _) hs) ?_)
    rintro x a1 w1 ⟨hx1, hs1⟩
    obtain rfl := hx1.normal
    refine wp_seq (wp_mono (exec_sl bT_ok bM bC_ok wf5'.2.1 (w5b m d v n u s) okm1 (fun v h => by cases h) trivial rfl rfl (kF _ _) hs1) ?_)
    rintro x a2 w2 ⟨hx2, hs2⟩
    obtain rfl := hx2.normal
    refine wp_seq (wp_mono (exec_sl bT_ok bM bC_ok wf5'.2.2.1 (w5c m d v n u s) okA (fun v h => by cases h) trivial rfl rfl (kF _ _) hs2) ?_)
    rintro x a3 w3 ⟨hx3, hs3⟩
    obtain rfl := hx3.normal
    refine wp_seq (wp_mono (exec_sl bT_ok bM bC_ok wf5'.2.2.2.1 (w5d m d v n u s) okA (fun v h => by cases h) trivial rfl rfl (kF _ _) hs3) ?_)
    rintro x a4 w4 ⟨hx4, hs4⟩
    obtain rfl := hx4.normal
    refine wp_seq (wp_seq (wp_mono (exec_sl bT_ok bM bC_ok wf5'.2.2.2.2.1 (w5e m d v n u s) okA (fun v h => by cases h) trivial rfl rfl (kF _ _) hs4) ?_))
    rintro x a5 w5 ⟨hx5, hs5⟩
    obtain rfl := hx5.normal
    have hs6 : SL Try.prog 110 [] ρ (g0 m (opF d v n u)).h.get W (s5 m 0 (opF d v n u) 0 0 s True []) a5 w5 :=
      (SL.sim (st' := st5 [(1, .osl 1000 m), (5, .ptr 1001 0), (6, .ptr 1002 0), (7, .int true .i64 0)] (h5c m (opF d v n u) s) 1003) hs5 rfl rfl (.same (.same (.same (.int .nil)))) rfl rfl).turn rfl rfl h5_turn
    refine wp_mono (read_loop hl hb hs6) ?_
    rintro x a6 w6 ⟨rfl, a, i, hs7⟩
    refine wp_mono (exec_sl bT_ok bM rdC_ok wf5'.2.2.2.2.2 (w5z m i a a d v n u s) okA (fun v h => by cases h) trivial rfl rfl (kF _ _) hs7) ?_
    rintro x a7 w7 ⟨hx8, hs8⟩
    exact ⟨.inr hx8.ret, _, _, hs8, trivial, res5 _, rfl⟩
  · rintro e W' ⟨st', l, y, ρ', rfl, rfl, hy, _, _, hfr, _⟩
    have hy' : VR ρ' (Dm N0 st'.g.nx) (.bool false true) y := hy
    obtain rfl := hy'.bool_inv
    exact ⟨rfl, hfr.os, hfr.tape, hfr.output, hfr.size, fun k hk => hfr.keep k hk fun b o hb hfx => by rw [hH b o hb] at hfx; cases hfx⟩
theorem br0_true (s : List Nat) : saysTrue (callN bT lP 1000 20 .no 5 [.str true s, .osl 1000 0] ⟨.e, 1001, True, [false, false, false]⟩) = true := by kernel_rfl
theorem br0_pc (s : List Nat) : pcOf (callN bT lP 1000 20 .no 5 [.str true s, .osl 1000 0] ⟨.e, 1001, True, [false, false, false]⟩) = (ilt 0 0 = false ∧ ilt 0 0 = false ∧ ilt 0 0 = false ∧ True) := by kernel_rfl
theorem reads_calls {W : World} {c : ByteArray} {a : Option Addr} {len cap : Nat} {d v n : Nat → Int} {t : Nat → ByteArray} (hs : c.size ≤ 140737488355328) (h : OpsAt W a len d v n t) :
    Calls Try.prog 5 #[.string c, .slice a len cap] W fun e W' => e = .returned (.bool true) ∧ Below W.heap.size W W' := by
  rcases Nat.eq_zero_or_pos len with rfl | hpos
  · exact says_calls (vs := [.string c, .slice a 0 cap]) (ρ := idR) lP_ok (br0_true (bts c)) (by rw [br0_pc]; exact ⟨rfl, rfl, rfl, trivial⟩) ⟨by omega, fun g _ => rfl⟩ (LR.cons (.str _ _) (LR.cons (.osl 1000 0 a cap (.inl (by omega)) (fun h => absurd h (Nat.lt_irrefl 0))) (LR.nil _ _)))
  · obtain ⟨ad, had, hv, arr, e2, fz, hblk, ho⟩ := ops_open h hpos cap
    exact bitsReads_calls len d v n (fun i => bts (t i)) (bts c) (by rw [bts_length]; exact hs) (bts_lt c) (opR_gl ad 1001 (by omega)) (.str _ _) hv (one_GR hblk ho)
end Go.Proofs.Yticfagianocfiaa.SX
