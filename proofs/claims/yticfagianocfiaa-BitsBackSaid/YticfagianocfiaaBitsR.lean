import Derived.Test.YticfagianocfiaaBitsW
set_option linter.unusedVariables false
set_option linter.unusedSimpArgs false
namespace Go.Proofs.Yticfagianocfiaa.SX
open Go.Proofs Go.Proofs.Yticfagianocfiaa Go.RowKit
set_option maxRecDepth 1000000
/-! ### calls that turn a struct's numbers and texts -/
noncomputable def scal (v : AV) : Bool := match v with | .int _ _ _ => true | .str _ _ => true | _ => false
theorem scal_vr {ρ ρ' : Rn} {D D' : Nat → Prop} {v : AV} {x : Value} (h : scal v = true) (hv : VR ρ D v x) : VR ρ' D' v x := by
  cases hv <;> first | (cases h; done) | skip
  · exact .int _ _ _
  · exact .str _ _
theorem scal_or {P : Program} {ρ ρ' : Rn} {D D' : Nat → Prop} {b b' t : Nat} {cs : List AV} {r : Obj} (h : cs.all scal = true) (ho : OR P ρ D b (.cells t cs false) r) : OR P ρ' D' b' (.cells t cs false) r := by
  cases ho with
  | cells e cs gr arr fz hR ho hr =>
    refine .cells _ _ _ arr fz (fun i x hx => ?_) ho ⟨hr.1, hr.2.1, fun h => by cases h⟩
    obtain ⟨y, hy, hv⟩ := hR i x hx
    exact ⟨y, hy, scal_vr (List.all_eq_true.1 h x (List.mem_of_getElem? hx)) hv⟩
noncomputable def hU (t : Nat) (cs : List AV) : Tr AObj := mkH [(1000, some (.cells t cs false))]
theorem hU_get (t : Nat) (cs : List AV) (b : Nat) : (hU t cs).get b = if b = 1000 then some (.cells t cs false) else none := by
  have e : hU t cs = (Tr.e : Tr AObj).put 1000 (some (.cells t cs false)) := rfl
  rw [e, get_put _ _ _ _ (by omega), get_e]
def LCu (P : Program) (f : FuncId) (vs : List Value) (t : Nat) (cs cs1 : List AV) (x1 : Value) : Prop := ∀ (ρ : Rn) (w : World) (p : Value), Gl ρ 1001 → VR ρ (Dm N0 1001) (.ptr 1000 0) p → GR P ρ (Dm N0 1001) (hU t cs).get w →
  Calls P f (p :: vs).toArray w fun e w' => ∃ ρ', e = .returned x1 ∧ GR P ρ' (Dm N0 1001) (hU t cs1).get w' ∧ Fram ρ (hU t cs).get w ρ' (hU t cs1).get w' ∧ ρ'.b 1000 = ρ.b 1000
theorem upd_call {P : Program} {E : Nat → Prop} {ρ : Rn} {g : G} {w : World} {f : FuncId} {vs : List Value} {t b : Nat} {cs cs1 : List AV} {x1 : Value} (hL : LCu P f vs t cs cs1 x1) (h0 : cs.all scal = true) (h1 : cs1.all scal = true) (hG : GR P ρ (Dm E g.nx) g.h.get w) (hb : g.h.get b = some (.cells t cs false)) :
    Calls P f (.pointer (some ⟨ρ.b b, 0, none⟩) :: vs).toArray w fun e w' => e = .returned x1 ∧ Eff P E ρ g w ρ (g.set b (some (.cells t cs1 false))) w' := by
  have hp : VR (smR ρ b 0) (Dm N0 1001) (.ptr 1000 0) (.pointer (some ⟨ρ.b b, 0, none⟩)) := .ptr 1000 0 (.inl (by omega))
  have hs : GR P (smR ρ b 0) (Dm N0 1001) (hU t cs).get w := by
    refine ⟨fun q o hq => ?_, fun q o hq => ?_, fun q q' o o' hq hq' e => ?_⟩
    · rw [hU_get] at hq
      split at hq
      · rename_i e; subst e; exact ⟨.inl (by omega), by omega⟩
      · cases hq
    · rw [hU_get] at hq
      split at hq
      · rename_i e
        subst e
        injection hq with hq
        subst hq
        obtain ⟨r, hr, ho⟩ := hG.at_ b _ hb
        exact ⟨r, hr, scal_or h0 ho⟩
      · cases hq
    · rw [hU_get] at hq hq'
      split at hq
      · split at hq'
        · rename_i e1 e2; rw [e1, e2]
        · cases hq'
      · cases hq
  refine (hL (smR ρ b 0) w _ (smR_gl ρ b 0 1001 (by omega)) hp hs).mono ?_
  rintro e w' ⟨ρ', rfl, hgr, hfr, hr0⟩
  refine ⟨rfl, graft0 hG hb rfl hfr.os hfr.tape hfr.output hfr.size (fun i hi hne => hfr.keep i hi fun q o hq hfx => ?_) ?_⟩
  · rw [hU_get] at hq
    split at hq
    · rename_i e; subst e; exact fun h => hne h.symm
    · cases hq
  · obtain ⟨r, hr, ho⟩ := hgr.at_ 1000 (.cells t cs1 false) (by rw [hU_get, if_pos rfl])
    rw [hr0] at hr
    exact ⟨r, hr, scal_or h1 ho⟩
noncomputable def prUpd (c : Prop) (t : Nat) (cs cs1 : List AV) (b : Nat) (x : AV) (g : G) : Option (CR × PM × G) := match g.h.get b with
  | some (.cells t' cs' gr) => some (.ret x, .no, (told (t' = t ∧ cs' = cs ∧ gr = false ∧ c) g).set b (some (.cells t cs1 false)))
  | _ => none
theorem prUpd_ok {P : Program} {f : FuncId} {vs : List Value} {c : Prop} {t b : Nat} {cs cs1 : List AV} {x : AV} {x1 : Value} {g : G} {q : CR × PM × G} (hL : c → LCu P f vs t cs cs1 x1) (h0 : cs.all scal = true) (h1 : cs1.all scal = true) (hx : ∀ ρ D, VR ρ D x x1) (h : prUpd c t cs cs1 b x g = some q) : PrSays P f b vs g q := by
  unfold prUpd at h
  split at h
  · rename_i t' cs' gr hb
    injection h with h
    subst h
    refine ⟨fun _ => ⟨⟨fun p => p.2, Nat.le_refl _⟩, rfl, fun E ρ w p hpc hE hp hw => ?_⟩, ⟨fun p => p.2, Nat.le_refl _⟩, rfl⟩
    obtain ⟨⟨rfl, rfl, rfl, hc⟩, _⟩ := hpc
    obtain ⟨rfl, _⟩ := hp.ptr_inv
    refine (upd_call (hL hc) h0 h1 hw hb).mono ?_
    rintro e w' ⟨rfl, he⟩
    exact ⟨ρ, he.pcR ⟨rfl, rfl, fun p => p.2⟩, hx _ _⟩
  · cases h
/-- a contract out of a walk -/
theorem lcu_of {f : FuncId} {fn : Func} {c : Code} {N : Nat} {xs : List AV} {vs : List Value} {t : Nat} {cs cs1 : List AV} {xr : AV} {x1 : Value} (hf : Try.prog.funcs[f]? = some fn) (hb : fn.body = some c) (hN : fn.ntmps = N) (hN2 : N < 16000000) (hl : xs.length + 1 ≤ N) (hxs : ∀ ρ D, LR ρ D xs vs) (hxr : ∀ ρ D v, VR ρ D xr v → v = x1)
    (h : ∀ ρ0 H0 w0 act w, SL Try.prog N [1000] ρ0 H0 w0 ⟨argsEnv (.ptr 1000 0 :: xs) 0 .e, ⟨hU t cs, 1001, True, []⟩, [], .no, []⟩ act w → c.wp Try.prog (fun x a' w' => (x = .normal ∨ x = .ret) ∧ ∃ env pc ch l, SL Try.prog N [1000] ρ0 H0 w0 ⟨env, ⟨hU t cs1, 1001, pc, ch⟩, [], .no, []⟩ a' w' ∧ pc ∧ SX.results bT env ⟨hU t cs1, 1001, pc, ch⟩ fn.results.toList = some l ∧ oneOr l = xr) act w) : LCu Try.prog f vs t cs cs1 x1 := by
  intro ρ w p hg hp hw
  refine (calls_sl (F := [1000]) (g := ⟨hU t cs, 1001, True, []⟩) (ρ := ρ) (w := w) (vs := p :: vs) (args := .ptr 1000 0 :: xs) bT_ok hf hb (by rw [hN]; simpa using hl) (by rw [hN]; exact hN2)
    (R := fun st' l => oneOr l = xr ∧ st'.g.nx = 1001 ∧ st'.g.h = hU t cs1)
    (fun b hb => by obtain rfl := List.mem_singleton.1 hb; show 1000 < 1001; omega) hg (LR.cons hp (hxs _ _)) hw ?_).mono ?_
  · intro act hs
    rw [hN] at hs ⊢
    refine wp_mono (h ρ _ w act w hs) ?_
    rintro x a' w' ⟨hx, env, pc, ch, l, hs', hpc, hr, hl⟩
    exact ⟨hx, _, l, hs', hpc, hr, hl, rfl, rfl⟩
  · rintro e w' ⟨st', l, x, ρ', ⟨h1, h2, h3⟩, rfl, hx, hg', hgr, hfr, hfx⟩
    rw [h2, h3] at hgr
    rw [h3] at hfr
    rw [h1] at hx
    exact ⟨ρ', by rw [hxr _ _ _ hx], hgr, hfr, (hfx 1000 (List.mem_singleton.2 rfl)).2⟩
open Go.Proofs Go.Proofs.Yticfagianocfiaa Go.RowKit
set_option maxRecDepth 1000000
theorem num_step (N p k : Nat) : N / 2 ^ p % 2 ^ (k + 8) = N / 2 ^ p % 2 ^ k + 2 ^ k * (N / 2 ^ (p + k) % 256) := by
  rw [Nat.pow_add, Nat.mod_mul, Nat.div_div_eq_div_mul, ← Nat.pow_add]
theorem cut (x r a n : Nat) (h : n + r ≤ a) : x % 2 ^ a / 2 ^ r % 2 ^ n = x / 2 ^ r % 2 ^ n := by
  apply Nat.eq_of_testBit_eq
  intro i
  simp only [Nat.testBit_mod_two_pow, Nat.testBit_div_two_pow]
  by_cases hi : i < n
  · have : i + r < a := by omega
    have h2 : r + i < a := by omega
    simp [hi, this, h2]
  · simp [hi]
/-- so many bits of a text, from a bit on -/
def bitsAt (s : List Nat) (a n : Nat) : Nat := numB s / 2 ^ a % 2 ^ n
theorem bitsAt_lt (s : List Nat) (a n : Nat) : bitsAt s a n < 2 ^ n := Nat.mod_lt _ (Nat.two_pow_pos n)
theorem byteAt_num (s : List Nat) (j : Nat) (h : ∀ x ∈ s, x < 256) (hj : j < s.length) : byteAt s (j : Int) = ((numB s / 2 ^ (8 * j) % 256 : Nat) : Int) := by
  unfold byteAt
  rw [Int.toNat_natCast, List.getElem?_eq_getElem hj, numB_byte s j h hj]
/-! Reader.Bits -/
noncomputable def R10 : Code := c1 (bodyOf 10)
noncomputable def B10 : Code := c1 (c2 (bodyOf 10))
noncomputable def I10 : Code := c1 (c2 (c2 (bodyOf 10)))
noncomputable def J10 : Code := c1 (c2 (c2 (c2 (bodyOf 10))))
noncomputable def K10 : Code := c1 (c1 (c2 (c2 (c2 (c2 (bodyOf 10))))))
noncomputable def L10 : Code := c1 (c1 (c2 (c1 (c2 (c2 (c2 (c2 (bodyOf 10))))))))
noncomputable def Z10 : Code := c2 (c2 (c2 (c2 (c2 (bodyOf 10)))))
theorem body10 : bodyOf 10 = .seq R10 (.seq B10 (.seq I10 (.seq J10 (.seq (.seq K10 (.block 1 (.loop L10))) Z10)))) := by kernel_rfl
theorem wf10 : wf 93 R10 = true ∧ wf 93 B10 = true ∧ wf 93 I10 = true ∧ wf 93 J10 = true ∧ wf 93 K10 = true ∧ wf 93 L10 = true ∧ wf 93 Z10 = true := ⟨by kernel_rfl, by kernel_rfl, by kernel_rfl, by kernel_rfl, by kernel_rfl, by kernel_rfl, by kernel_rfl⟩
theorem fits10 : Try.f10.body = some (bodyOf 10) ∧ Try.f10.ntmps = 93 := ⟨by kernel_rfl, by kernel_rfl⟩
noncomputable def cs10 (a : Int) (s : List Nat) : List AV := [.int true .i64 a, .str true s]
noncomputable def g10 (a : Int) (s : List Nat) (pc : Prop) (ch : List Bool) : G := ⟨hU 59 (cs10 a s), 1001, pc, ch⟩
noncomputable def s10 (l : List (Nat × AV)) (a : Int) (s : List Nat) (pc : Prop) (ch : List Bool) : St := ⟨mkEnv 93 l, g10 a s pc ch, [], .no, []⟩
noncomputable def f10 (n : Int) : List (Nat × AV) := [(0, .ptr 1000 0), (1, .int true .i64 n)]
noncomputable def e10 (n v q i : Int) : List (Nat × AV) := [(0, .ptr 1000 0), (1, .int true .i64 n), (6, .int true .u64 v), (7, .int true .i64 q), (8, .int true .i64 i)]
noncomputable def z10 (b : Bool) (v r : Int) : List (Nat × AV) := [(4, .int b .u32 v), (5, .int false .i64 r)]
noncomputable def rest10 (a : Int) (s : List Nat) : Int := wr .i64 ((wr .i64 (Int.mul 8 s.length)).sub a)
theorem okU : okM m1 1001 = true := ok1
theorem r10 (n a : Int) (s : List Nat) : wkX 93 [0, 1] m1 1001 (exec R10 bT bC 1000 ⟨argsEnv [.ptr 1000 0, .int true .i64 n] 0 .e, g10 a s True [], [], .no, []⟩) = some (.normal, s10 (f10 n) a s True []) := by kernel_rfl
theorem b10a (n a : Int) (s : List Nat) : wkX 93 [4, 5] m1 1001 (exec B10 bT bC 1000 (s10 (f10 n) a s True (rep true 3))) = some (.ret, s10 (z10 false 0 1) a s (ilt n 0 = true ∧ ilt n 0 = true ∧ ilt n 0 = true ∧ True) []) := by kernel_rfl
theorem b10b (n a : Int) (s : List Nat) : wkX 93 [4, 5] m1 1001 (exec B10 bT bC 1000 (s10 (f10 n) a s True (rep false 3 ++ [true]))) = some (.ret, s10 (z10 false 0 1) a s (ilt 32 n = true ∧ ilt n 0 = false ∧ ilt n 0 = false ∧ ilt n 0 = false ∧ True) []) := by kernel_rfl
theorem b10c (n a : Int) (s : List Nat) : wkX 93 [4, 5] m1 1001 (exec B10 bT bC 1000 (s10 (f10 n) a s True (rep false 4 ++ [true]))) = some (.ret, s10 (z10 false 0 2) a s (ilt (rest10 a s) n = true ∧ ilt 32 n = false ∧ ilt n 0 = false ∧ ilt n 0 = false ∧ ilt n 0 = false ∧ True) []) := by kernel_rfl
theorem b10d (n a : Int) (s : List Nat) : wkX 93 [0, 1] m1 1001 (exec B10 bT bC 1000 (s10 (f10 n) a s True (rep false 5))) = some (.normal, s10 (f10 n) a s (ilt (rest10 a s) n = false ∧ ilt 32 n = false ∧ ilt n 0 = false ∧ ilt n 0 = false ∧ ilt n 0 = false ∧ True) []) := by kernel_rfl
theorem i10 (n a : Int) (s : List Nat) : wkX 93 [0, 1, 6] m1 1001 (exec I10 bT bC 1000 (s10 (f10 n) a s True [])) = some (.normal, s10 [(0, .ptr 1000 0), (1, .int true .i64 n), (6, .int false .u64 0)] a s True []) := by kernel_rfl
theorem j10 (n a : Int) (s : List Nat) : wkX 93 [0, 1, 6, 7] m1 1001 (exec J10 bT bC 1000 (s10 [(0, .ptr 1000 0), (1, .int true .i64 n), (6, .int false .u64 0)] a s True [])) = some (.normal, s10 [(0, .ptr 1000 0), (1, .int true .i64 n), (6, .int false .u64 0), (7, .int true .i64 (q8 a))] a s True []) := by kernel_rfl
theorem k10 (n a q : Int) (s : List Nat) : wkX 93 [0, 1, 6, 7, 8] m1 1001 (exec K10 bT bC 1000 (s10 [(0, .ptr 1000 0), (1, .int true .i64 n), (6, .int false .u64 0), (7, .int true .i64 q)] a s True [])) = some (.normal, s10 [(0, .ptr 1000 0), (1, .int true .i64 n), (6, .int false .u64 0), (7, .int true .i64 q), (8, .int false .i64 0)] a s True []) := by kernel_rfl
noncomputable def v10 (s : List Nat) (v q i : Int) : Int := bitI .or Nat.lor .u64 v (wr .u64 ((wr .u64 (byteAt s (wr .i64 (q.add i)))).mul (pow2 (wr .i64 (Int.mul 8 i)) 64)))
noncomputable def cd10 (n a q i : Int) (b : Bool) : Prop := ilt (wr .i64 (Int.mul 8 (wr .i64 (q.add i)))) (wr .i64 (a.add n)) = b
theorem l10a (n a v q i : Int) (s : List Nat) : wkX 93 [0, 1, 6, 7, 8] m1 1001 (exec L10 bT bC 1000 (s10 (e10 n v q i) a s True [true])) = some (.normal, s10 (e10 n (v10 s v q i) q (wr .i64 (i.add 1))) a s ((!ilt (wr .i64 (Int.mul 8 i)) 0) = true ∧ inB (wr .i64 (q.add i)) s.length = true ∧ cd10 n a q i true ∧ True) []) := by kernel_rfl
theorem l10z (n a v q i : Int) (s : List Nat) : wkX 93 [0, 1, 6, 7, 8] m1 1001 (exec L10 bT bC 1000 (s10 (e10 n v q i) a s True [false])) = some (.exit 1, s10 (e10 n v q i) a s (cd10 n a q i false ∧ True) []) := by kernel_rfl
noncomputable def w10 (n a v : Int) : Int := wr .u32 (bitI .and Nat.land .u64 (v.fdiv (pow2 (al a) 64)) (wr .u64 ((wr .u64 (Int.mul 1 (pow2 n 64))).sub 1)))
theorem z10' (n a v q i : Int) (s : List Nat) : wkX 93 [4, 5] m1 1001 (exec Z10 bT bC 1000 (s10 (e10 n v q i) a s True [])) = some (.ret, s10 (z10 true (w10 n a v) 0) (wr .i64 (a.add n)) s ((!ilt n 0) = true ∧ (!ilt (al a) 0) = true ∧ True) []) := by kernel_rfl
theorem res10 (b : Bool) (v r : Int) (g : G) : SX.results bT (mkEnv 93 (z10 b v r)) g Try.f10.results.toList = some [.int b .u32 v, .int false .i64 r] := by kernel_rfl
section
variable {ρ0 : Rn} {H0 : Nat → Option AObj} {w0 : World} {act : Act} {w : World}
theorem rd_round {s : List Nat} {a n i : Nat} (h : ∀ x ∈ s, x < 256) (hs0 : s.length ≤ 140737488355328) (hn : n ≤ 32) (ha : a + n ≤ 8 * s.length) (hi : i ≤ 4) (hc : 8 * (a / 8 + i) < a + n)
    (hs : SL Try.prog 93 [1000] ρ0 H0 w0 (s10 (e10 n (bitsAt s (8 * (a / 8)) (8 * i) : Nat) (a / 8 : Nat) i) a s True []) act w) :
    L10.wp Try.prog (fun x a' w' => x = .normal ∧ SL Try.prog 93 [1000] ρ0 H0 w0 (s10 (e10 n (bitsAt s (8 * (a / 8)) (8 * (i + 1)) : Nat) (a / 8 : Nat) ((i + 1 : Nat) : Int)) a s True []) a' w') act w := by
  have e1 : wr .i64 (Int.add ((a / 8 : Nat) : Int) (i : Int)) = ((a / 8 + i : Nat) : Int) := by show wr .i64 (((a / 8 : Nat) : Int) + (i : Int)) = _; rw [wr_i64 (by omega) (by omega)]; omega
  have e2 : wr .i64 (Int.mul 8 ((a / 8 + i : Nat) : Int)) = ((8 * (a / 8 + i) : Nat) : Int) := by show wr .i64 (8 * ((a / 8 + i : Nat) : Int)) = _; rw [wr_i64 (by omega) (by omega)]; omega
  have e3 : wr .i64 (Int.add (a : Int) (n : Int)) = ((a + n : Nat) : Int) := by show wr .i64 ((a : Int) + (n : Int)) = _; rw [wr_i64 (by omega) (by omega)]; omega
  have e4 : wr .i64 (Int.mul 8 (i : Int)) = ((8 * i : Nat) : Int) := by show wr .i64 (8 * (i : Int)) = _; rw [wr_i64 (by omega) (by omega)]; omega
  have e5 : wr .i64 (Int.add (i : Int) 1) = ((i + 1 : Nat) : Int) := by show wr .i64 ((i : Int) + 1) = _; rw [wr_i64 (by omega) (by omega)]; omega
  have hlt : a / 8 + i < s.length := by omega
  have ev : v10 s ((bitsAt s (8 * (a / 8)) (8 * i) : Nat) : Int) ((a / 8 : Nat) : Int) (i : Int) = ((bitsAt s (8 * (a / 8)) (8 * (i + 1)) : Nat) : Int) := by
    unfold v10
    rw [e1, e4, byteAt_num s _ h hlt, pow2_nat _ 64 (by omega)]
    have hB : numB s / 2 ^ (8 * (a / 8 + i)) % 256 < 256 := Nat.mod_lt _ (by omega)
    have hst := num_step (numB s) (8 * (a / 8)) (8 * i)
    rw [show 8 * (a / 8) + 8 * i = 8 * (a / 8 + i) from by omega] at hst
    have hb := bitsAt_lt s (8 * (a / 8)) (8 * i)
    have hp : 2 ^ (8 * i) ≤ 2 ^ 32 := Nat.pow_le_pow_right (by omega) (by omega)
    unfold bitsAt at hb ⊢
    rw [show 8 * (i + 1) = 8 * i + 8 from by omega, hst]
    generalize numB s / 2 ^ (8 * (a / 8)) % 2 ^ (8 * i) = A at hb ⊢
    generalize numB s / 2 ^ (8 * (a / 8 + i)) % 256 = B at hB ⊢
    generalize hP : 8 * i = k at hb hp ⊢
    have hx : B * 2 ^ k ≤ 255 * 2 ^ 32 := Nat.mul_le_mul (by omega) hp
    have f1 : wr .u64 (B : Int) = (B : Int) := wr_u64 (by omega) (by omega)
    have f2 : wr .u64 (Int.mul (B : Int) ((2 ^ k : Nat) : Int)) = ((B * 2 ^ k : Nat) : Int) := by
      show wr .u64 ((B : Int) * ((2 ^ k : Nat) : Int)) = _
      rw [show (B : Int) * ((2 ^ k : Nat) : Int) = ((B * 2 ^ k : Nat) : Int) from (Int.natCast_mul _ _).symm]
      exact wr_u64 (Int.natCast_nonneg _) (Int.ofNat_lt.2 (show _ < 18446744073709551616 by omega))
    have hA : A < 2 ^ 64 := Nat.lt_of_lt_of_le hb (Nat.le_trans hp (by omega))
    rw [f1, f2, lor_u64 _ _ hA (by omega), or_add _ _ _ hb, Nat.mul_comm B]
  have e0 := l10a n a ((bitsAt s (8 * (a / 8)) (8 * i) : Nat) : Int) ((a / 8 : Nat) : Int) i s
  rw [ev, e5] at e0
  refine wp_mono (exec_sl bT_ok bM bC_ok wf10.2.2.2.2.2.1 e0 okU (fun v h => by cases h) ⟨?_, ?_, ?_, trivial⟩ rfl rfl kp1 (hs.alike rfl rfl rfl)) ?_
  · rw [e4]; exact nilt_t (by omega)
  · rw [e1]; exact inB_t (by omega) (by omega)
  · unfold cd10; rw [e1, e2, e3]; exact ilt_t (by omega)
  · exact fun x a' w' ⟨h1, h2⟩ => ⟨h1.normal, h2.alike rfl rfl rfl⟩
theorem rd_loop {s : List Nat} {a n : Nat} (h : ∀ x ∈ s, x < 256) (hs0 : s.length ≤ 140737488355328) (hn : n ≤ 32) (ha : a + n ≤ 8 * s.length)
    (hs : SL Try.prog 93 [1000] ρ0 H0 w0 (s10 (e10 n 0 (a / 8 : Nat) 0) a s True []) act w) :
    (Code.block 1 (.loop L10)).wp Try.prog (fun x a' w' => x = .normal ∧ ∃ i : Nat, i ≤ 5 ∧ a + n ≤ 8 * (a / 8 + i) ∧ SL Try.prog 93 [1000] ρ0 H0 w0 (s10 (e10 n (bitsAt s (8 * (a / 8)) (8 * i) : Nat) (a / 8 : Nat) i) a s True []) a' w') act w := by
  have hz : bitsAt s (8 * (a / 8)) (8 * 0) = 0 := Nat.mod_one _
  refine wp_block (loop_sl (ι := Nat) (fun i => s10 (e10 n (bitsAt s (8 * (a / 8)) (8 * i) : Nat) (a / 8 : Nat) i) a s True []) (fun i => i ≤ 5) (fun i => 5 - i) 0 (Nat.zero_le _) (by rw [hz]; exact hs) ?_)
  intro i hi act w hs
  by_cases hc : 8 * (a / 8 + i) < a + n
  · refine wp_mono (rd_round h hs0 hn ha (by omega) hc hs) ?_
    rintro x a' w' ⟨rfl, hs'⟩
    have g1 : i + 1 ≤ 5 := by omega
    have g2 : 5 - (i + 1) < 5 - i := by omega
    exact ⟨i + 1, g1, g2, hs'⟩
  · have e1 : wr .i64 (Int.add ((a / 8 : Nat) : Int) (i : Int)) = ((a / 8 + i : Nat) : Int) := by show wr .i64 (((a / 8 : Nat) : Int) + (i : Int)) = _; rw [wr_i64 (by omega) (by omega)]; omega
    have e2 : wr .i64 (Int.mul 8 ((a / 8 + i : Nat) : Int)) = ((8 * (a / 8 + i) : Nat) : Int) := by show wr .i64 (8 * ((a / 8 + i : Nat) : Int)) = _; rw [wr_i64 (by omega) (by omega)]; omega
    have e3 : wr .i64 (Int.add (a : Int) (n : Int)) = ((a + n : Nat) : Int) := by show wr .i64 ((a : Int) + (n : Int)) = _; rw [wr_i64 (by omega) (by omega)]; omega
    refine wp_mono (exec_sl bT_ok bM bC_ok wf10.2.2.2.2.2.1 (l10z n a _ _ i s) okU (fun v h => by cases h) ⟨?_, trivial⟩ rfl rfl kp1 (hs.alike rfl rfl rfl)) ?_
    · unfold cd10; rw [e1, e2, e3]; exact ilt_f (by omega)
    · rintro x a' w' ⟨hx, hs'⟩
      obtain rfl := hx.exit
      exact ⟨rfl, i, hi, by omega, hs'.alike rfl rfl rfl⟩
end
/-- what Bits says, at a bit of a text -/
def bitsR (s : List Nat) (a : Nat) (n : Int) : Nat × Int × Nat :=
  if 0 ≤ n ∧ n ≤ 32 then if a + n.toNat ≤ 8 * s.length then (bitsAt s a n.toNat, 0, a + n.toNat) else (0, 2, a) else (0, 1, a)
theorem rest10_nat (a : Nat) (s : List Nat) (hs0 : s.length ≤ 140737488355328) (ha : a ≤ 8 * s.length) : rest10 (a : Int) s = ((8 * s.length - a : Nat) : Int) := by
  unfold rest10
  have e1 : wr .i64 (Int.mul 8 (s.length : Int)) = ((8 * s.length : Nat) : Int) := by show wr .i64 (8 * (s.length : Int)) = _; rw [wr_i64 (by omega) (by omega)]; omega
  rw [e1]
  show wr .i64 (((8 * s.length : Nat) : Int) - (a : Int)) = _
  rw [wr_i64 (by omega) (by omega)]; omega
theorem w10_nat (s : List Nat) (a n i : Nat) (hn : n ≤ 32) (hi : i ≤ 5) (hc : a + n ≤ 8 * (a / 8 + i)) : w10 (n : Int) (a : Int) ((bitsAt s (8 * (a / 8)) (8 * i) : Nat) : Int) = ((bitsAt s a n : Nat) : Int) := by
  unfold w10
  rw [al_nat, pow2_nat _ 64 (by omega), pow2_nat _ 64 (by omega), fdiv_nat]
  have p1 : 2 ^ n ≤ 2 ^ 32 := Nat.pow_le_pow_right (by omega) hn
  have p0 : 0 < 2 ^ n := Nat.two_pow_pos n
  have f1 : wr .u64 (Int.mul 1 ((2 ^ n : Nat) : Int)) = ((2 ^ n : Nat) : Int) := by
    show wr .u64 (1 * ((2 ^ n : Nat) : Int)) = _
    rw [Int.one_mul, wr_u64 (Int.natCast_nonneg _) (Int.ofNat_lt.2 (show 2 ^ n < 18446744073709551616 by omega))]
  have f2 : wr .u64 (Int.sub ((2 ^ n : Nat) : Int) 1) = ((2 ^ n - 1 : Nat) : Int) := by
    generalize 2 ^ n = z at p0 p1 ⊢
    show wr .u64 ((z : Int) - 1) = _
    rw [wr_u64 (by omega) (by omega)]; omega
  rw [f1, f2, land_u64 _ _ (by omega), Nat.and_two_pow_sub_one_eq_mod]
  unfold bitsAt
  rw [cut _ _ _ _ (by omega), Nat.div_div_eq_div_mul, ← Nat.pow_add, show 8 * (a / 8) + a % 8 = a from by omega]
  have hfin : numB s / 2 ^ a % 2 ^ n < 2 ^ n := Nat.mod_lt _ p0
  exact wr_u32 (Int.natCast_nonneg _) (Int.ofNat_lt.2 (show _ < 4294967296 by omega))
theorem pair_vr {ρ : Rn} {D : Nat → Prop} {b : Bool} {v r : Int} {x : Value} (h : VR ρ D (.tup [.int b .u32 v, .int false .i64 r]) x) : x = .tuple #[.int .u32 v, .int .i64 r] := by
  obtain ⟨qs, rfl, h1, h2⟩ := h.tup_inv
  have : qs.toList = [.int .u32 v, .int .i64 r] := by
    match hq : qs.toList, h1 with
    | [u1, u2], _ =>
      rw [hq] at h2
      obtain rfl := (h2 0 _ u1 rfl rfl).int_inv
      obtain rfl := (h2 1 _ u2 rfl rfl).int_inv
      rfl
  have h3 : qs = #[.int .u32 v, .int .i64 r] := by apply Array.toList_inj.1; exact this
  rw [h3]
theorem int1 {n : Int} {s : Bool} {k : IntKind} : ∀ (ρ : Rn) (D : Nat → Prop) us, LR ρ D [.int s k n] us → us = [.int k n] := by
  intro ρ D us h
  obtain ⟨h1, h2⟩ := h
  match us, h1 with
  | [u1], _ =>
    obtain rfl := (h2 0 _ u1 rfl rfl).int_inv
    rfl
/-- Reader.Bits: what it does -/
theorem rbits_lc (s : List Nat) (a : Nat) (n : Int) (h : ∀ x ∈ s, x < 256) (hs0 : s.length ≤ 140737488355328) (ha : a ≤ 8 * s.length) :
    LCu Try.prog 10 [.int .i64 n] 59 (cs10 a s) (cs10 ((bitsR s a n).2.2 : Nat) s) (.tuple #[.int .u32 ((bitsR s a n).1 : Nat), .int .i64 (bitsR s a n).2.1]) := by
  refine lcu_of (xs := [.int true .i64 n]) (xr := .tup [.int (decide ((bitsR s a n).2.1 = 0)) .u32 ((bitsR s a n).1 : Nat), .int false .i64 (bitsR s a n).2.1]) Try.func10 fits10.1 fits10.2 (by omega) (by simp) (fun ρ D => LR.cons (.int _ _ _) (LR.nil _ _)) (fun ρ D v hv => pair_vr hv) ?_
  intro ρ0 H0 w0 act w hs
  rw [body10]
  have hrest := rest10_nat a s hs0 ha
  refine wp_seq (wp_mono (exec_sl bT_ok bM bC_ok wf10.1 (r10 n a s) okU (fun v h => by cases h) trivial rfl rfl kp1 (hs.alike rfl rfl rfl)) ?_)
  rintro x a1 w1 ⟨hx, h1⟩
  obtain rfl := hx.normal
  by_cases h0 : n < 0
  · have e : bitsR s a n = (0, 1, a) := by unfold bitsR; rw [if_neg (by omega)]
    rw [e]
    refine wp_seq (wp_mono (exec_sl bT_ok bM bC_ok wf10.2.1 (b10a n a s) okU (fun v h => by cases h) ⟨ilt_t h0, ilt_t h0, ilt_t h0, trivial⟩ rfl rfl kp1 (h1.alike rfl rfl rfl)) ?_)
    rintro x a2 w2 ⟨hx, h2⟩
    obtain rfl := hx.ret
    exact ⟨.inr rfl, _, True, [], _, h2.alike rfl rfl rfl, trivial, res10 false 0 1 _, rfl⟩
  · have c0 : ilt n 0 = false := ilt_f (by omega)
    by_cases h32 : 32 < n
    · have e : bitsR s a n = (0, 1, a) := by unfold bitsR; rw [if_neg (by omega)]
      rw [e]
      refine wp_seq (wp_mono (exec_sl bT_ok bM bC_ok wf10.2.1 (b10b n a s) okU (fun v h => by cases h) ⟨ilt_t h32, c0, c0, c0, trivial⟩ rfl rfl kp1 (h1.alike rfl rfl rfl)) ?_)
      rintro x a2 w2 ⟨hx, h2⟩
      obtain rfl := hx.ret
      exact ⟨.inr rfl, _, True, [], _, h2.alike rfl rfl rfl, trivial, res10 false 0 1 _, rfl⟩
    · have c32 : ilt 32 n = false := ilt_f (by omega)
      obtain ⟨k, rfl⟩ := Int.eq_ofNat_of_zero_le (by omega : 0 ≤ n)
      have hk : k ≤ 32 := by omega
      have ek : (k : Int).toNat = k := Int.toNat_natCast k
      by_cases hfit : a + k ≤ 8 * s.length
      · have e : bitsR s a (k : Int) = (bitsAt s a k, 0, a + k) := by unfold bitsR; rw [if_pos (by omega), ek, if_pos hfit]
        rw [e]
        refine wp_seq (wp_mono (exec_sl bT_ok bM bC_ok wf10.2.1 (b10d k a s) okU (fun v h => by cases h) ⟨by rw [hrest]; exact ilt_f (by omega), c32, c0, c0, c0, trivial⟩ rfl rfl kp1 (h1.alike rfl rfl rfl)) ?_)
        rintro x a2 w2 ⟨hx, h2⟩
        obtain rfl := hx.normal
        refine wp_seq (wp_mono (exec_sl bT_ok bM bC_ok wf10.2.2.1 (i10 k a s) okU (fun v h => by cases h) trivial rfl rfl kp1 (h2.alike rfl rfl rfl)) ?_)
        rintro x a3 w3 ⟨hx, h3⟩
        obtain rfl := hx.normal
        refine wp_seq (wp_mono (exec_sl bT_ok bM bC_ok wf10.2.2.2.1 (j10 k a s) okU (fun v h => by cases h) trivial rfl rfl kp1 h3) ?_)
        rintro x a4 w4 ⟨hx, h4⟩
        obtain rfl := hx.normal
        refine wp_seq (wp_seq (wp_mono (exec_sl bT_ok bM bC_ok wf10.2.2.2.2.1 (k10 k a _ s) okU (fun v h => by cases h) trivial rfl rfl kp1 h4) ?_))
        rintro x a5 w5 ⟨hx, h5⟩
        obtain rfl := hx.normal
        rw [q8_nat a (by omega)] at h5
        refine wp_mono (rd_loop h hs0 hk hfit (h5.sim rfl rfl (.same (.same (.int (.same (.int .nil))))) rfl rfl)) ?_
        rintro x a6 w6 ⟨rfl, i, hi, hc, h6⟩
        have e0 := z10' k a ((bitsAt s (8 * (a / 8)) (8 * i) : Nat) : Int) ((a / 8 : Nat) : Int) i s
        have e3 : wr .i64 (Int.add (a : Int) (k : Int)) = ((a + k : Nat) : Int) := by show wr .i64 ((a : Int) + (k : Int)) = _; rw [wr_i64 (by omega) (by omega)]; omega
        rw [w10_nat s a k i hk hi hc, e3] at e0
        refine wp_mono (exec_sl bT_ok bM bC_ok wf10.2.2.2.2.2.2 e0 okU (fun v h => by cases h) ⟨nilt_t (by omega), by rw [al_nat]; exact nilt_t (by omega), trivial⟩ rfl rfl kp1 h6) ?_
        rintro x a7 w7 ⟨hx, h7⟩
        obtain rfl := hx.ret
        exact ⟨.inr rfl, _, True, [], _, h7.alike rfl rfl rfl, trivial, res10 true _ 0 _, rfl⟩
      · have e : bitsR s a (k : Int) = (0, 2, a) := by unfold bitsR; rw [if_pos (by omega), ek, if_neg hfit]
        rw [e]
        refine wp_seq (wp_mono (exec_sl bT_ok bM bC_ok wf10.2.1 (b10c k a s) okU (fun v h => by cases h) ⟨by rw [hrest]; exact ilt_t (by omega), c32, c0, c0, c0, trivial⟩ rfl rfl kp1 (h1.alike rfl rfl rfl)) ?_)
        rintro x a2 w2 ⟨hx, h2⟩
        obtain rfl := hx.ret
        exact ⟨.inr rfl, _, True, [], _, h2.alike rfl rfl rfl, trivial, res10 false 0 2 _, rfl⟩
open Go.Proofs Go.Proofs.Yticfagianocfiaa Go.RowKit
set_option maxRecDepth 1000000
/-! ### Reader.Bits as a primitive -/
theorem upd_call2 {P : Program} {E : Nat → Prop} {ρ : Rn} {g : G} {w : World} {f : FuncId} {vs : List Value} {t b : Nat} {cs0 cs cs1 : List AV} {x1 : Value} (hL : LCu P f vs t cs cs1 x1) (hc : ∀ (ρ ρ' : Rn) (D D' : Nat → Prop) (b b' : Nat) (r : Obj), OR P ρ D b (.cells t cs0 false) r → OR P ρ' D' b' (.cells t cs false) r) (h1 : cs1.all scal = true) (hG : GR P ρ (Dm E g.nx) g.h.get w) (hb : g.h.get b = some (.cells t cs0 false)) :
    Calls P f (.pointer (some ⟨ρ.b b, 0, none⟩) :: vs).toArray w fun e w' => e = .returned x1 ∧ Eff P E ρ g w ρ (g.set b (some (.cells t cs1 false))) w' := by
  have hp : VR (smR ρ b 0) (Dm N0 1001) (.ptr 1000 0) (.pointer (some ⟨ρ.b b, 0, none⟩)) := .ptr 1000 0 (.inl (by omega))
  have hs : GR P (smR ρ b 0) (Dm N0 1001) (hU t cs).get w := by
    refine ⟨fun q o hq => ?_, fun q o hq => ?_, fun q q' o o' hq hq' e => ?_⟩
    · rw [hU_get] at hq
      split at hq
      · rename_i e; subst e; exact ⟨.inl (by omega), by omega⟩
      · cases hq
    · rw [hU_get] at hq
      split at hq
      · rename_i e
        subst e
        injection hq with hq
        subst hq
        obtain ⟨r, hr, ho⟩ := hG.at_ b _ hb
        exact ⟨r, hr, hc _ _ _ _ _ _ _ ho⟩
      · cases hq
    · rw [hU_get] at hq hq'
      split at hq
      · split at hq'
        · rename_i e1 e2; rw [e1, e2]
        · cases hq'
      · cases hq
  refine (hL (smR ρ b 0) w _ (smR_gl ρ b 0 1001 (by omega)) hp hs).mono ?_
  rintro e w' ⟨ρ', rfl, hgr, hfr, hr0⟩
  refine ⟨rfl, graft0 hG hb rfl hfr.os hfr.tape hfr.output hfr.size (fun i hi hne => hfr.keep i hi fun q o hq hfx => ?_) ?_⟩
  · rw [hU_get] at hq
    split at hq
    · rename_i e; subst e; exact fun h => hne h.symm
    · cases hq
  · obtain ⟨r, hr, ho⟩ := hgr.at_ 1000 (.cells t cs1 false) (by rw [hU_get, if_pos rfl])
    rw [hr0] at hr
    exact ⟨r, hr, scal_or h1 ho⟩
/-- the same numbers and texts, told otherwise -/
noncomputable def sameS (a b : AV) : Prop := match a, b with
  | .int _ k n, .int _ k' n' => k = k' ∧ n = n'
  | .str _ s, .str _ s' => s = s'
  | _, _ => False
theorem sameS_vr {ρ ρ' : Rn} {D D' : Nat → Prop} {a b : AV} {x : Value} (h : sameS a b) (hv : VR ρ D a x) : VR ρ' D' b x := by
  cases a <;> cases b <;> first | exact h.elim | skip
  · obtain ⟨rfl, rfl⟩ := h; cases hv; exact .int _ _ _
  · obtain rfl := h; cases hv; exact .str _ _
theorem two_or {P : Program} {ρ ρ' : Rn} {D D' : Nat → Prop} {b b' t : Nat} {u v u' v' : AV} {r : Obj} (hu : sameS u u') (hv : sameS v v') (ho : OR P ρ D b (.cells t [u, v] false) r) : OR P ρ' D' b' (.cells t [u', v'] false) r := by
  cases ho with
  | cells e cs gr arr fz hR ho hr =>
    refine .cells _ _ _ arr fz (fun i x hx => ?_) ho ⟨hr.1, hr.2.1, fun h => by cases h⟩
    match i, hx with
    | 0, hx => injection hx with hx; subst hx; obtain ⟨y, hy, hvy⟩ := hR 0 u rfl; exact ⟨y, hy, sameS_vr hu hvy⟩
    | 1, hx => injection hx with hx; subst hx; obtain ⟨y, hy, hvy⟩ := hR 1 v rfl; exact ⟨y, hy, sameS_vr hv hvy⟩
/-- what must hold of a reader -/
def Rd0 (a : Int) (s : List Nat) : Prop := 0 ≤ a ∧ a ≤ 8 * (s.length : Int) ∧ s.length ≤ 140737488355328 ∧ ∀ x ∈ s, x < 256
noncomputable def okN (n : Int) : Bool := ilt (-1) n && ilt n 33
noncomputable def fitN (a n : Int) (s : List Nat) : Bool := ilt (Int.add a n) (Int.add (Int.mul 8 s.length) 1)
theorem okN_iff (n : Int) : okN n = true ↔ 0 ≤ n ∧ n ≤ 32 := by
  unfold okN
  rw [ilt_eq, ilt_eq]
  simp only [Bool.and_eq_true, decide_eq_true_eq]
  omega
theorem fitN_iff (a n : Int) (s : List Nat) : fitN a n s = true ↔ a + n ≤ 8 * (s.length : Int) := by
  unfold fitN
  rw [ilt_eq]
  simp only [decide_eq_true_eq]
  show a + n < 8 * (s.length : Int) + 1 ↔ _
  omega
/-- the choices of Bits, and what it leaves -/
noncomputable def goBits (a n : Int) (s : List Nat) (g0 : G) (k : Nat → Int → Int → G → Option (CR × PM × G)) : Option (CR × PM × G) :=
  testS (okN n) (told (Rd0 a s) g0) fun t g => match t with
    | true => testS (fitN a n s) g fun u g => (match u with
      | true => k (bitsAt s a.toNat n.toNat) 0 (Int.add a n) g
      | false => k 0 2 a g)
    | false => k 0 1 a g
theorem goBits_some {a n : Int} {s : List Nat} {g : G} {k : Nat → Int → Int → G → Option (CR × PM × G)} {q : CR × PM × G} (h : goBits a n s g k = some q) :
    ∃ v r a1 g1, Pc g g1 ∧ k v r a1 g1 = some q ∧ (g1.pc → Rd0 a s ∧ v = (bitsR s a.toNat n).1 ∧ r = (bitsR s a.toNat n).2.1 ∧ a1 = ((bitsR s a.toNat n).2.2 : Nat)) := by
  unfold goBits at h
  obtain ⟨t, g1, hp1, hc1, hA⟩ := testS_some h
  clear h
  have hp : Pc g g1 := ⟨hp1.h, hp1.nx, fun p => (hp1.pc p).2⟩
  cases t with
  | true =>
    simp only at hA
    obtain ⟨u, g2, hp2, hc2, hB⟩ := testS_some hA
    clear hA
    cases u with
    | true =>
      refine ⟨_, _, _, g2, hp.trans hp2, hB, fun p => ?_⟩
      have hr := (hp1.pc (hp2.pc p)).1
      have h1 := (okN_iff n).1 (hc1 (hp2.pc p))
      have h2 := (fitN_iff a n s).1 (hc2 p)
      have e : bitsR s a.toNat n = (bitsAt s a.toNat n.toNat, 0, a.toNat + n.toNat) := by
        unfold bitsR
        rw [if_pos h1, if_pos (by have := hr.1; omega)]
      rw [e]
      refine ⟨hr, rfl, rfl, ?_⟩
      show a + n = _
      have := hr.1
      simp only
      omega
    | false =>
      refine ⟨_, _, _, g2, hp.trans hp2, hB, fun p => ?_⟩
      have hr := (hp1.pc (hp2.pc p)).1
      have h1 := (okN_iff n).1 (hc1 (hp2.pc p))
      have h2 : ¬ a + n ≤ 8 * (s.length : Int) := fun hh => by have := hc2 p; rw [(fitN_iff a n s).2 hh] at this; cases this
      have e : bitsR s a.toNat n = (0, 2, a.toNat) := by
        unfold bitsR
        rw [if_pos h1, if_neg (by have := hr.1; omega)]
      rw [e]
      exact ⟨hr, rfl, rfl, by have := hr.1; simp only; omega⟩
  | false =>
    refine ⟨_, _, _, g1, hp, hA, fun p => ?_⟩
    have hr := (hp1.pc p).1
    have h1 : ¬ (0 ≤ n ∧ n ≤ 32) := fun hh => by have := hc1 p; rw [(okN_iff n).2 hh] at this; cases this
    have e : bitsR s a.toNat n = (0, 1, a.toNat) := by
      unfold bitsR
      rw [if_neg h1]
    rw [e]
    exact ⟨hr, rfl, rfl, by have := hr.1; simp only; omega⟩
noncomputable def pRd (b : Nat) (n : Int) (g : G) : Option (CR × PM × G) := match g.h.get b with
  | some (.cells t [.int _ .i64 a, .str _ s] gr) => goBits a n s g fun v r a1 g => some (.ret (.tup [.int true .u32 v, .int false .i64 r]), .no, (told (t = 59 ∧ gr = false) g).set b (some (.cells 59 (cs10 a1 s) false)))
  | _ => none
noncomputable def rP : CallT := fun pm f args g => match pm, args with
  | .no, [.ptr b 0, .int _ .i64 n] => bif f.beq 10 then pRd b n g else none
  | _, _ => none
theorem ok10 : FnOk Try.prog 10 := fnOk Try.func10 fits10.1 (by kernel_rfl)
theorem pair_mk (ρ : Rn) (D : Nat → Prop) (b b' : Bool) (v r : Int) : VR ρ D (.tup [.int b .u32 v, .int b' .i64 r]) (.tuple #[.int .u32 v, .int .i64 r]) :=
  .tup _ _ rfl (fun i x u hx hu => by
    match i, hx, hu with
    | 0, hx, hu => injection hx with hx; injection hu with hu; subst hx hu; exact .int _ _ _
    | 1, hx, hu => injection hx with hx; injection hu with hu; subst hx hu; exact .int _ _ _)
theorem pRd_some {b : Nat} {n : Int} {g : G} {q : CR × PM × G} (h : pRd b n g = some q) : (q.2.2.pc → PrOk Try.prog 10 b [.int .i64 n] g q) ∧ Le g q.2.2 ∧ q.2.1 = .no := by
  unfold pRd at h
  split at h
  · rename_i t s2 a s3 s gr hb
    obtain ⟨v, r, a1, g1, hp, hk, hs⟩ := goBits_some h
    clear h
    injection hk with hk
    subst hk
    have hle : Le g ((told (t = 59 ∧ gr = false) g1).set b (some (.cells 59 (cs10 a1 s) false))) := ⟨fun p => hp.pc p.2, by show g.nx ≤ g1.nx; rw [hp.nx]; exact Nat.le_refl _⟩
    refine ⟨fun _ => ⟨hle, rfl, fun E ρ w p hpc hE hv hw => ?_⟩, hle, rfl⟩
    obtain ⟨⟨rfl, rfl⟩, hp1⟩ := hpc
    obtain ⟨hr, rfl, rfl, rfl⟩ := hs hp1
    obtain ⟨rfl, _⟩ := hv.ptr_inv
    obtain ⟨k, rfl⟩ := Int.eq_ofNat_of_zero_le hr.1
    have ek : (k : Int).toNat = k := Int.toNat_natCast k
    rw [ek]
    have hL := rbits_lc s k n hr.2.2.2 hr.2.2.1 (by have := hr.2.1; omega)
    refine (upd_call2 hL (fun ρ ρ' D D' b b' r ho => two_or (u := .int s2 .i64 (k : Int)) (v := .str s3 s) (u' := .int true .i64 (k : Int)) (v' := .str true s) (show _ ∧ _ from ⟨rfl, rfl⟩) (show s = s from rfl) ho) rfl hw hb).mono ?_
    rintro e w' ⟨rfl, he⟩
    refine ⟨ρ, he.pcR ⟨?_, hp.nx, fun p => hp.pc p.2⟩, pair_mk _ _ _ _ _ _⟩
    show g1.h.put b _ = g.h.put b _
    rw [hp.h]
  · cases h
theorem rP_ok : CallOk Try.prog rP := by
  refine callOk_of fun pm f args g q h => ?_
  unfold rP at h
  split at h
  · rename_i b s1 n
    rcases bifNone h with ⟨e, h⟩ | ⟨_, h⟩
    · obtain rfl := beq_iff.1 e
      obtain ⟨h1, h2, h3⟩ := pRd_some h
      exact ⟨rfl, ok10, b, _, rfl, fun hpc => ⟨_, int1, h1 hpc⟩, h2, h3⟩
    · cases h
  · cases h
end Go.Proofs.Yticfagianocfiaa.SX
