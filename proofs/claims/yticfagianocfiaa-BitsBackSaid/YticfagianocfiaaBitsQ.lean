import Derived.Test.YticfagianocfiaaBitsP
set_option linter.unusedVariables false
set_option linter.unusedSimpArgs false
namespace Go.Proofs.Yticfagianocfiaa.SX
/-! ### calls of functions that let a struct grow, as the executor takes them -/
noncomputable def told (p : Prop) (g : G) : G := { g with pc := p ∧ g.pc }
noncomputable def prAA (K : WKind) (a : Nat) (b : Nat) (x : AV) (g : G) : Option (CR × PM × G) := match g.h.get b with
  | some (.cells t cs gr) => some (.ret x, .no, (told (t = K.t ∧ cs = K.preA.map (.int false .i64) ++ [.nils] ∧ gr = false ∧ a = 0) g).set b (some (cA K)))
  | _ => none
noncomputable def prAB (K : WKind) (a a1 B1 : Nat) (b : Nat) (x : AV) (g : G) : Option (CR × PM × G) := match g.h.get b with
  | some (.cells t cs gr) => (match g.nx.blt 16000000 with
    | true => some (.ret x, .no, { told (t = K.t ∧ cs = K.preA.map (.int false .i64) ++ [.nils] ∧ gr = false ∧ a = 0 ∧ 0 < a1) g with h := (g.h.put b (some (cB K a1 g.nx))).put g.nx (some (cR K a1 B1)), nx := g.nx + 1 })
    | false => none)
  | _ => none
noncomputable def prBB (K : WKind) (a B a1 B1 : Nat) (b b2 : Nat) (x : AV) (g : G) : Option (CR × PM × G) := match g.h.get b with
  | some (.cells t cs gr) => (match g.h.get b2 with
    | some (.nums e k xs gr2) => (match g.nx.blt 16000000 with
      | true => some (.ret x, .no, { told (t = K.t ∧ cs = (K.pre a).map (.int true .i64) ++ [.sl true b2 0 (K.len a) (.un 0)] ∧ gr = false ∧ e = 5 ∧ k = .u8 ∧ xs = K.row a B ∧ gr2 = true ∧ 0 < a ∧ 0 < a1) g with h := ((g.h.put b (some (cB K a1 g.nx))).put b2 none).put g.nx (some (cR K a1 B1)), nx := g.nx + 1 })
      | false => none)
    | _ => none)
  | _ => none
section
variable {P : Program} {f : FuncId} {K : WKind} {vs : List Value} {a B a1 B1 b b2 : Nat} {x : AV} {x1 : Value} {g : G} {q : CR × PM × G}
/-- what a primitive call does -/
structure PrOk (P : Program) (f : FuncId) (b : Nat) (vs : List Value) (g : G) (q : CR × PM × G) : Prop where
  mo : Le g q.2.2
  pm : q.2.1 = .no
  ok : ∀ (E : Nat → Prop) (ρ : Rn) (w : World) (p : Value), q.2.2.pc → (∀ b, E b → q.2.2.nx ≤ b) → VR ρ (Dm E g.nx) (.ptr b 0) p → GR P ρ (Dm E g.nx) g.h.get w →
    Calls P f (p :: vs).toArray w fun e w' => ∃ ρ', Eff P E ρ g w ρ' q.2.2 w' ∧ EndR ρ' (Dm E q.2.2.nx) q.1 e
theorem prAA_ok (hL : a = 0 → LCd P K f vs a B 0 B1 x1) (hx : ∀ ρ D, VR ρ D x x1) (h : prAA K a b x g = some q) : PrOk P f b vs g q := by
  unfold prAA at h
  split at h
  · rename_i t cs gr hb
    injection h with h
    subst h
    refine ⟨⟨fun p => p.2, Nat.le_refl _⟩, rfl, fun E ρ w p hpc hE hp hw => ?_⟩
    obtain ⟨⟨rfl, rfl, rfl, rfl⟩, _⟩ := hpc
    obtain ⟨rfl, _⟩ := hp.ptr_inv
    refine (grow_aa (hL rfl) hw hb).mono ?_
    rintro e w' ⟨rfl, he⟩
    exact ⟨ρ, he.pcR ⟨rfl, rfl, fun p => p.2⟩, hx _ _⟩
  · cases h
theorem prAB_ok (hL : a = 0 → LCd P K f vs a B a1 B1 x1) (hx : ∀ ρ D, VR ρ D x x1) (h : prAB K a a1 B1 b x g = some q) : PrOk P f b vs g q := by
  unfold prAB at h
  split at h
  · rename_i t cs gr hb
    split at h
    · rename_i hn
      injection h with h
      subst h
      refine ⟨⟨fun p => p.2, Nat.le_succ _⟩, rfl, fun E ρ w p hpc hE hp hw => ?_⟩
      obtain ⟨⟨rfl, rfl, rfl, rfl, ha1⟩, _⟩ := hpc
      obtain ⟨rfl, _⟩ := hp.ptr_inv
      refine (grow_ab (hL rfl) ha1 hw hb (blt_iff.1 hn) hE).mono ?_
      rintro e w' ⟨rfl, ρ', he⟩
      exact ⟨ρ', he.pcR ⟨rfl, rfl, fun p => p.2⟩, hx _ _⟩
    · cases h
  · cases h
theorem prBB_ok (hL : LCd P K f vs a B a1 B1 x1) (hx : ∀ ρ D, VR ρ D x x1) (h : prBB K a B a1 B1 b b2 x g = some q) : PrOk P f b vs g q := by
  unfold prBB at h
  split at h
  · rename_i t cs gr hb
    split at h
    · rename_i e k xs gr2 hb2
      split at h
      · rename_i hn
        injection h with h
        subst h
        refine ⟨⟨fun p => p.2, Nat.le_succ _⟩, rfl, fun E ρ w p hpc hE hp hw => ?_⟩
        obtain ⟨⟨rfl, rfl, rfl, rfl, rfl, rfl, rfl, ha, ha1⟩, _⟩ := hpc
        obtain ⟨rfl, _⟩ := hp.ptr_inv
        refine (grow_bb hL ha ha1 hw hb hb2 (blt_iff.1 hn) hE).mono ?_
        rintro e w' ⟨rfl, ρ', he⟩
        exact ⟨ρ', he.pcR ⟨rfl, rfl, fun p => p.2⟩, hx _ _⟩
      · cases h
    · cases h
  · cases h
theorem PrOk.pcL {g0 : G} (hp : Pc g0 g) (h : PrOk P f b vs g q) : PrOk P f b vs g0 q :=
  ⟨⟨fun p => hp.pc (h.mo.pc p), by rw [← hp.nx]; exact h.mo.nx⟩, h.pm, fun E ρ w p hpc hE hv hw => by
    rw [← hp.nx] at hv hw
    rw [← hp.h] at hw
    refine (h.ok E ρ w p hpc hE hv hw).mono ?_
    rintro e w' ⟨ρ', he, hx⟩
    exact ⟨ρ', he.pcL hp, hx⟩⟩
theorem testS_some {α : Type} {c : Bool} {k : Bool → G → Option α} {r : α} (h : testS c g k = some r) : ∃ t g1, Pc g g1 ∧ (g1.pc → c = t) ∧ k t g1 = some r := by
  unfold testS at h
  split at h
  · rename_i t l hc
    exact ⟨t, { g with pc := c = t ∧ g.pc, ch := l }, ⟨rfl, rfl, fun p => p.2⟩, fun p => p.1, h⟩
  · cases h
end
noncomputable def lastOf (cs : List AV) : AV := match cs with | [x] => x | [_, x] => x | _ => .bad
/-- a struct with a slice: either form -/
noncomputable def onLast (b : Nat) (g : G) (ka : Option (CR × PM × G)) (kb : Nat → Option (CR × PM × G)) : Option (CR × PM × G) := match g.h.get b with
  | some (.cells _ cs _) => (match lastOf cs with
    | .nils => ka
    | .sl _ b2 _ _ _ => kb b2
    | _ => none)
  | _ => none
noncomputable def takesB (v n : Int) : Bool := ilt (-1) n && ilt n 33 && ilt v (2 ^ n.toNat)
theorem takesB_iff {v : Nat} {n : Int} : takesB (v : Int) n = true ↔ Takes v n := by
  unfold takesB Takes
  rw [ilt_eq, ilt_eq, ilt_eq]
  simp only [Bool.and_eq_true, decide_eq_true_eq]
  constructor
  · rintro ⟨⟨h1, h2⟩, h3⟩
    exact ⟨by omega, by omega, by
      have : ((v : Nat) : Int) < ((2 ^ n.toNat : Nat) : Int) := by push_cast; exact h3
      exact Int.ofNat_lt.1 this⟩
  · rintro ⟨h1, h2, h3⟩
    exact ⟨⟨by omega, by omega⟩, by have := Int.ofNat_lt.2 h3; push_cast at this; exact this⟩
/-- Put, of either writer -/
noncomputable def prPut (K : WKind) (a B b : Nat) (v n : Int) (g0 : G) : Option (CR × PM × G) :=
  testS (takesB v n) (told (0 ≤ v ∧ v < 4294967296 ∧ B < 2 ^ a ∧ a < 2 ^ 42) g0) fun t g => onLast b g
    (match t with
      | true => testS (ieq n 0) g fun z g => (match z with
        | true => prAA K a b (.int false .i64 0) g
        | false => prAB K a (a + n.toNat) (B + v.toNat * 2 ^ a) b (.int false .i64 0) g)
      | false => prAA K a b (.int false .i64 1) g)
    (fun b2 => match t with
      | true => prBB K a B (a + n.toNat) (B + v.toNat * 2 ^ a) b b2 (.int false .i64 0) g
      | false => prBB K a B a B b b2 (.int false .i64 1) g)
theorem onLast_some {b : Nat} {g : G} {ka : Option (CR × PM × G)} {kb : Nat → Option (CR × PM × G)} {q : CR × PM × G} (h : onLast b g ka kb = some q) : ka = some q ∨ ∃ b2, kb b2 = some q := by
  unfold onLast at h
  split at h
  · split at h
    · exact .inl h
    · exact .inr ⟨_, h⟩
    · cases h
  · cases h
theorem prPut_ok {P : Program} {K : WKind} {f : FuncId} (yes : ∀ (a B v : Nat) (n : Int), B < 2 ^ a → v < 2 ^ 32 → a < 2 ^ 42 → Takes v n → LCd P K f [.int .u32 v, .int .i64 n] a B (a + n.toNat) (B + v * 2 ^ a) (.int .i64 0))
    (no : ∀ (a B v : Nat) (n : Int), B < 2 ^ a → v < 2 ^ 32 → a < 2 ^ 42 → ¬ Takes v n → LCd P K f [.int .u32 v, .int .i64 n] a B a B (.int .i64 1)) {a B b : Nat} {v n : Int} {g : G} {q : CR × PM × G} (h : prPut K a B b v n g = some q) :
    (q.2.2.pc → PrOk P f b [.int .u32 v, .int .i64 n] g q) ∧ Le g q.2.2 ∧ q.2.1 = .no := by
  have hx0 : ∀ r ρ D, VR ρ D (.int false .i64 r) (.int .i64 r) := fun r ρ D => .int _ _ _
  unfold prPut at h
  obtain ⟨t, g1, hp1, hc1, hA⟩ := testS_some h
  clear h
  have hp : Pc g g1 := ⟨hp1.h, hp1.nx, fun p => (hp1.pc p).2⟩
  have tot : ∀ {g2 : G}, Pc g1 g2 → g2.pc → (0 ≤ v ∧ v < 4294967296 ∧ B < 2 ^ a ∧ a < 2 ^ 42) ∧ takesB v n = t := fun hp2 p => ⟨(hp1.pc (hp2.pc p)).1, hc1 (hp2.pc p)⟩
  have mo : (∀ {g2 : G}, Le g2 q.2.2 → Pc g1 g2 → Le g q.2.2) := fun hl hp2 => ⟨fun p => hp.pc (hp2.pc (hl.pc p)), by rw [← hp.nx, ← hp2.nx]; exact hl.nx⟩
  have moAA : ∀ {x : AV} {g2 : G}, prAA K a b x g2 = some q → Le g2 q.2.2 ∧ q.2.1 = .no := by
    intro x g2 h
    unfold prAA at h
    split at h
    · injection h with h; subst h; exact ⟨⟨fun p => p.2, Nat.le_refl _⟩, rfl⟩
    · cases h
  have moAB : ∀ {a1 B1 : Nat} {x : AV} {g2 : G}, prAB K a a1 B1 b x g2 = some q → Le g2 q.2.2 ∧ q.2.1 = .no := by
    intro a1 B1 x g2 h
    unfold prAB at h
    split at h
    · split at h
      · injection h with h; subst h; exact ⟨⟨fun p => p.2, Nat.le_succ _⟩, rfl⟩
      · cases h
    · cases h
  have moBB : ∀ {a1 B1 b2 : Nat} {x : AV} {g2 : G}, prBB K a B a1 B1 b b2 x g2 = some q → Le g2 q.2.2 ∧ q.2.1 = .no := by
    intro a1 B1 b2 x g2 h
    unfold prBB at h
    split at h
    · split at h
      · split at h
        · injection h with h; subst h; exact ⟨⟨fun p => p.2, Nat.le_succ _⟩, rfl⟩
        · cases h
      · cases h
    · cases h
  rcases onLast_some hA with hB | ⟨b2, hB⟩ <;> clear hA
  · cases t with
    | true =>
      simp only at hB
      obtain ⟨z, g2, hp2, hc2, hC⟩ := testS_some hB
      clear hB
      cases z with
      | true =>
        simp only at hC
        obtain ⟨hl, hpm⟩ := moAA hC
        refine ⟨fun hpc => ?_, mo hl hp2, hpm⟩
        obtain ⟨⟨h1, h2, h3, h4⟩, h5⟩ := tot hp2 (hl.pc hpc)
        have hn0 : n = 0 := by have := hc2 (hl.pc hpc); rw [ieq_eq] at this; simpa using this
        obtain ⟨m, rfl⟩ := Int.eq_ofNat_of_zero_le h1
        refine (prAA_ok (K := K) (B := B) (B1 := B + m * 2 ^ a) (x1 := .int .i64 0) (fun ha => ?_) (hx0 0) hC).pcL (hp.trans hp2)
        have := yes a B m n h3 (by omega) h4 (takesB_iff.1 h5)
        subst ha
        rw [hn0] at this ⊢
        exact this
      | false =>
        simp only at hC
        obtain ⟨hl, hpm⟩ := moAB hC
        refine ⟨fun hpc => ?_, mo hl hp2, hpm⟩
        obtain ⟨⟨h1, h2, h3, h4⟩, h5⟩ := tot hp2 (hl.pc hpc)
        obtain ⟨m, rfl⟩ := Int.eq_ofNat_of_zero_le h1
        exact (prAB_ok (K := K) (B := B) (x1 := .int .i64 0) (fun ha => yes a B m n h3 (by omega) h4 (takesB_iff.1 h5)) (hx0 0) hC).pcL (hp.trans hp2)
    | false =>
      simp only at hB
      obtain ⟨hl, hpm⟩ := moAA hB
      refine ⟨fun hpc => ?_, mo hl (.refl _), hpm⟩
      obtain ⟨⟨h1, h2, h3, h4⟩, h5⟩ := tot (.refl _) (hl.pc hpc)
      obtain ⟨m, rfl⟩ := Int.eq_ofNat_of_zero_le h1
      refine (prAA_ok (K := K) (B := B) (B1 := B) (x1 := .int .i64 1) (fun ha => ?_) (hx0 1) hB).pcL hp
      have := no a B m n h3 (by omega) h4 (fun ht => by rw [takesB_iff.2 ht] at h5; cases h5)
      subst ha
      exact this
  · cases t with
    | true =>
      simp only at hB
      obtain ⟨hl, hpm⟩ := moBB hB
      refine ⟨fun hpc => ?_, mo hl (.refl _), hpm⟩
      obtain ⟨⟨h1, h2, h3, h4⟩, h5⟩ := tot (.refl _) (hl.pc hpc)
      obtain ⟨m, rfl⟩ := Int.eq_ofNat_of_zero_le h1
      exact (prBB_ok (K := K) (x1 := .int .i64 0) (yes a B m n h3 (by omega) h4 (takesB_iff.1 h5)) (hx0 0) hB).pcL hp
    | false =>
      simp only at hB
      obtain ⟨hl, hpm⟩ := moBB hB
      refine ⟨fun hpc => ?_, mo hl (.refl _), hpm⟩
      obtain ⟨⟨h1, h2, h3, h4⟩, h5⟩ := tot (.refl _) (hl.pc hpc)
      obtain ⟨m, rfl⟩ := Int.eq_ofNat_of_zero_le h1
      exact (prBB_ok (K := K) (x1 := .int .i64 1) (no a B m n h3 (by omega) h4 (fun ht => by rw [takesB_iff.2 ht] at h5; cases h5)) (hx0 1) hB).pcL hp
open Go.Proofs Go.Proofs.Yticfagianocfiaa Go.RowKit
set_option maxRecDepth 1000000
/-- a contract out of a walk -/
theorem lcd_of {K : WKind} {f : FuncId} {fn : Func} {c : Code} {N : Nat} {xs : List AV} {vs : List Value} {a B a1 B1 : Nat} {xr : AV} {x1 : Value} (hf : Try.prog.funcs[f]? = some fn) (hb : fn.body = some c) (hN : fn.ntmps = N) (hN2 : N < 16000000) (hl : xs.length + 1 ≤ N) (hxs : ∀ ρ D, LR ρ D xs vs) (hxr : ∀ ρ D v, VR ρ D xr v → v = x1)
    (h : ∀ ρ0 H0 w0 act w, SL Try.prog N [1000] ρ0 H0 w0 ⟨argsEnv (.ptr 1000 0 :: xs) 0 .e, ⟨hS K a B, nxW a, True, []⟩, [], .no, []⟩ act w → c.wp Try.prog (fun x a' w' => (x = .normal ∨ x = .ret) ∧ ∃ env pc ch l, SL Try.prog N [1000] ρ0 H0 w0 ⟨env, ⟨hS K a1 B1, nxW a1, pc, ch⟩, [], .no, []⟩ a' w' ∧ pc ∧ SX.results bT env ⟨hS K a1 B1, nxW a1, pc, ch⟩ fn.results.toList = some l ∧ oneOr l = xr) act w) : LCd Try.prog K f vs a B a1 B1 x1 := by
  intro ρ w p hg hp hw
  refine (calls_sl (F := [1000]) (g := ⟨hS K a B, nxW a, True, []⟩) (ρ := ρ) (w := w) (vs := p :: vs) (args := .ptr 1000 0 :: xs) bT_ok hf hb (by rw [hN]; simpa using hl) (by rw [hN]; exact hN2)
    (R := fun st' l => oneOr l = xr ∧ st'.g.nx = nxW a1 ∧ st'.g.h = hS K a1 B1)
    (fun b hb => by obtain rfl := List.mem_singleton.1 hb; show 1000 < nxW a; cases a <;> simp [nxW]) hg (LR.cons hp (hxs _ _)) hw ?_).mono ?_
  · intro act hs
    rw [hN] at hs ⊢
    refine wp_mono (h ρ _ w act w hs) ?_
    rintro x a' w' ⟨hx, env, pc, ch, l, hs', hpc, hr, hl⟩
    exact ⟨hx, _, l, hs', hpc, hr, hl, rfl, rfl⟩
  · rintro e w' ⟨st', l, x, ρ', ⟨h1, h2, h3⟩, rfl, hx, hg', hgr, hfr, hfx⟩
    rw [h2, h3] at hgr
    rw [h3] at hfr
    rw [h1] at hx
    exact ⟨ρ', by rw [hxr _ _ _ hx], hgr, hfr, (hfx 1000 (List.mem_singleton.2 rfl)).2⟩
theorem tup0 {ρ : Rn} {D : Nat → Prop} {v : Value} (hv : VR ρ D (.tup []) v) : v = .tuple #[] := by
  obtain ⟨qs, rfl, hL⟩ := hv.tup_inv
  have h : qs.toList = [] := List.length_eq_zero_iff.1 hL.1.symm
  have h2 : qs = #[] := by apply Array.toList_inj.1; exact h
  rw [h2]
/-! the reference's Align -/
def up8 (a : Nat) : Nat := (a + 7) / 8 * 8
noncomputable def L13 : Code := c1 (c1 (bodyOf 13))
theorem body13 : bodyOf 13 = .block 0 (.loop L13) := by kernel_rfl
theorem wf13 : wf 18 L13 = true := by kernel_rfl
theorem fits13 : Try.f13.body = some (bodyOf 13) ∧ Try.f13.ntmps = 18 := ⟨by kernel_rfl, by kernel_rfl⟩
noncomputable def e13 : Tr AV := mkEnv 18 [(0, .ptr 1000 0)]
noncomputable def i13 : Tr AV := argsEnv [.ptr 1000 0] 0 .e
theorem l13a : wkX 18 [0] (mX none) 1001 (exec L13 bT bC 1000 (sX none e13 True [])) = some (.exit 0, sX none e13 True []) := by kernel_rfl
theorem l13z (xs : List Int) (l : Nat) : wkX 18 [0] (m2n 1001) 1002 (exec L13 bT bC 1000 (sX (some (xs, l)) e13 True [false])) = some (.exit 0, sX (some (xs, l)) e13 ((!ieq ((l : Int).tmod 8) 0) = false ∧ True) []) := by kernel_rfl
theorem l13b (xs : List Int) (l : Nat) : wkX 18 [0] (m2n 1003) 1002 (exec L13 bT bC 1000 (sX (some (xs, l)) e13 True [true, false])) = some (.normal, sX (some (xs ++ [0], l + 1)) e13 ((((l + 1) * 1).ble 140737488355328 && (l + 1).ble 140737488355328) = true ∧ xs.length.beq l = true ∧ Nat.beq 1 0 = false ∧ (!ieq ((l : Int).tmod 8) 0) = true ∧ True) []) := by kernel_rfl
/-- a frame at its begin is told by its numbers -/
theorem SL.look {P : Program} {N : Nat} {F : List Nat} {ρ0 : Rn} {H0 : Nat → Option AObj} {w0 : World} {st st' : St} {a : Act} {w : World} {l : List (Nat × AV)} (h : SL P N F ρ0 H0 w0 st a w) (h1 : st'.env = mkEnv N l) (hl : ∀ p ∈ l, evT st.env p.1 = p.2) (h2 : st'.g.nx = st.g.nx) (h3 : st'.g.h = st.g.h) : SL P N F ρ0 H0 w0 st' a w := by
  obtain ⟨ρ, he, hg, hr, hf, hfx, hd⟩ := h
  refine ⟨ρ, ⟨he.size, he.small, fun t => ?_⟩, by rw [h2]; exact hg, by rw [h2, h3]; exact hr, by rw [h3]; exact hf, by rw [h2]; exact hfx, hd⟩
  have hv := he.get t
  rw [evT_eq, h1, mkEnv_get _ _ (Nat.le_of_lt he.small), h2]
  by_cases ht : t < N
  · rw [if_pos ht]
    show VR _ _ (lookF l t) _
    clear h1
    induction l with
    | nil => exact .bad _
    | cons q r ih =>
      rw [lookF_cons]
      by_cases e : q.1 = t
      · rw [if_pos e, ← hl q (List.mem_cons_self ..), e]; exact hv
      · rw [if_neg e]; exact ih fun p hp => hl p (List.mem_cons_of_mem _ hp)
  · rw [if_neg ht]
    have : a.tmps.getD t undef = undef := by
      simp only [Array.getD_eq_getD_getElem?]
      rw [Array.getElem?_eq_none (by rw [he.size]; omega)]; rfl
    rw [this]; exact .und
theorem rb_zero (a B : Nat) (hB : B < 2 ^ a) : rb a B ++ [0] = rb (a + 1) B := by
  have := rb_succ a B 0 hB (by omega)
  rw [Nat.zero_mul, Nat.add_zero] at this
  exact this.symm
section
variable {ρ0 : Rn} {H0 : Nat → Option AObj} {w0 : World} {act : Act} {w : World}
theorem ral_loop {a B : Nat} (hB : B < 2 ^ a) (ha : a < 2 ^ 45) (hs : SL Try.prog 18 [1000] ρ0 H0 w0 (sX (xR a B) e13 True []) act w) :
    (Code.block 0 (.loop L13)).wp Try.prog (fun x a' w' => x = .normal ∧ SL Try.prog 18 [1000] ρ0 H0 w0 (sX (xR (up8 a) B) e13 True []) a' w') act w := by
  refine wp_block (loop_sl (ι := Nat) (fun i => sX (xR i B) e13 True []) (fun i => a ≤ i ∧ i ≤ up8 a) (fun i => up8 a - i) a ⟨Nat.le_refl _, by unfold up8; omega⟩ hs ?_)
  intro i ⟨h1, h2⟩ act w hs
  rcases Nat.eq_zero_or_pos i with rfl | hpos
  · have : up8 a = 0 := by unfold up8; omega
    rw [this]
    refine wp_mono (exec_sl bT_ok bM bC_ok wf13 l13a (okX none) (fun v h => by cases h) trivial rfl rfl (kpX none) hs) ?_
    rintro x a' w' ⟨hx, hs'⟩
    obtain rfl := hx.exit
    exact ⟨rfl, hs'⟩
  · rw [xR_pos _ hpos] at hs
    have hBi : B < 2 ^ i := Nat.lt_of_lt_of_le hB (Nat.pow_le_pow_right (by omega) h1)
    have et : ((i : Int).tmod 8) = ((i % 8 : Nat) : Int) := rfl
    by_cases h8 : i % 8 = 0
    · have : up8 a = i := by unfold up8 at *; omega
      rw [this]
      refine wp_mono (exec_sl bT_ok bM bC_ok wf13 (l13z (rb i B) i) ok2n (fun v h => by cases h) ⟨by rw [et, ieq_t (by rw [h8]; rfl)]; rfl, trivial⟩ rfl rfl kp2n (hs.alike rfl rfl rfl)) ?_
      rintro x a' w' ⟨hx, hs'⟩
      obtain rfl := hx.exit
      refine ⟨rfl, ?_⟩
      rw [xR_pos _ hpos]
      exact hs'.alike rfl rfl rfl
    · have hlt : i < up8 a := by unfold up8 at *; omega
      have e0 := l13b (rb i B) i
      rw [rb_zero i B hBi] at e0
      refine wp_mono (exec_sl bT_ok bM bC_ok wf13 e0 ok2m (fun v h => by cases h) ⟨by rw [Bool.and_eq_true]; exact ⟨ble_t (by unfold up8 at *; omega), ble_t (by unfold up8 at *; omega)⟩, beq_t (rb_length i B), rfl, by rw [et, ieq_f (by omega)]; rfl, trivial⟩ rfl rfl kp2m (hs.alike rfl rfl rfl)) ?_
      rintro x a' w' ⟨hx, hs'⟩
      obtain rfl := hx.normal
      exact ⟨i + 1, ⟨by omega, hlt⟩, by show up8 a - (i + 1) < up8 a - i; omega, by rw [xR_pos _ (by omega)]; exact hs'.alike rfl rfl rfl⟩
end
theorem ral_lc (a B : Nat) (hB : B < 2 ^ a) (ha : a < 2 ^ 45) : LCd Try.prog KR 13 [] a B (up8 a) B (.tuple #[]) := by
  refine lcd_of (xs := []) (xr := .tup []) Try.func13 fits13.1 fits13.2 (by omega) (by simp) (fun ρ D => LR.nil _ _) (fun ρ D v hv => ?_) ?_
  · exact tup0 hv
  · intro ρ0 H0 w0 act w hs
    rw [body13]
    refine wp_mono (ral_loop hB ha (hs.look (l := [(0, .ptr 1000 0)]) rfl (fun p hp => ?_) (by rw [← xR_nx a B]; rfl) (by rw [← xR_h a B]; rfl))) ?_
    · obtain rfl := List.mem_singleton.1 hp; rfl
    · rintro x a' w' ⟨rfl, hs'⟩
      exact ⟨.inl rfl, e13, True, [], [], hs'.alike rfl (by rw [← xR_nx (up8 a) B]; rfl) (by rw [← xR_h (up8 a) B]; rfl), trivial, by kernel_rfl, rfl⟩
open Go.Proofs Go.Proofs.Yticfagianocfiaa Go.RowKit
set_option maxRecDepth 1000000
theorem prMo {q : CR × PM × G} {K : WKind} {a b : Nat} {x : AV} {g : G} : (prAA K a b x g = some q → Le g q.2.2 ∧ q.2.1 = .no) ∧ (∀ a1 B1, prAB K a a1 B1 b x g = some q → Le g q.2.2 ∧ q.2.1 = .no) ∧ (∀ B a1 B1 b2, prBB K a B a1 B1 b b2 x g = some q → Le g q.2.2 ∧ q.2.1 = .no) := by
  refine ⟨fun h => ?_, fun a1 B1 h => ?_, fun B a1 B1 b2 h => ?_⟩
  · unfold prAA at h
    split at h
    · injection h with h; subst h; exact ⟨⟨fun p => p.2, Nat.le_refl _⟩, rfl⟩
    · cases h
  · unfold prAB at h
    split at h
    · split at h
      · injection h with h; subst h; exact ⟨⟨fun p => p.2, Nat.le_succ _⟩, rfl⟩
      · cases h
    · cases h
  · unfold prBB at h
    split at h
    · split at h
      · split at h
        · injection h with h; subst h; exact ⟨⟨fun p => p.2, Nat.le_succ _⟩, rfl⟩
        · cases h
      · cases h
    · cases h
/-- a call without a choice -/
noncomputable def prDet (K : WKind) (c : Prop) (a B a1 B1 b : Nat) (x : AV) (g : G) : Option (CR × PM × G) := onLast b (told c g) (prAA K a b x (told c g)) (fun b2 => prBB K a B a1 B1 b b2 x (told c g))
/-- what a primitive says -/
def PrSays (P : Program) (f : FuncId) (b : Nat) (vs : List Value) (g : G) (q : CR × PM × G) : Prop := (q.2.2.pc → PrOk P f b vs g q) ∧ Le g q.2.2 ∧ q.2.1 = .no
theorem prDet_ok {P : Program} {K : WKind} {f : FuncId} {vs : List Value} {c : Prop} {a B a1 B1 b : Nat} {x : AV} {x1 : Value} {g : G} {q : CR × PM × G} (hL : c → LCd P K f vs a B a1 B1 x1) (h0 : a = 0 → a1 = 0) (hx : ∀ ρ D, VR ρ D x x1) (h : prDet K c a B a1 B1 b x g = some q) : PrSays P f b vs g q := by
  have hp : Pc g (told c g) := ⟨rfl, rfl, fun p => p.2⟩
  have mo : Le (told c g) q.2.2 → Le g q.2.2 := fun hl => ⟨fun p => hp.pc (hl.pc p), hl.nx⟩
  rcases onLast_some h with hB | ⟨b2, hB⟩
  · obtain ⟨hl, hpm⟩ := prMo.1 hB
    refine ⟨fun hpc => (prAA_ok (K := K) (B := B) (B1 := B1) (fun ha => ?_) hx hB).pcL hp, mo hl, hpm⟩
    have := hL (hl.pc hpc).1
    rw [h0 ha] at this
    exact this
  · obtain ⟨hl, hpm⟩ := prMo.2.2 _ _ _ _ hB
    exact ⟨fun hpc => (prBB_ok (hL (hl.pc hpc).1) hx hB).pcL hp, mo hl, hpm⟩
/-- .. that lets the struct grow, if something is there -/
noncomputable def prAdd (K : WKind) (c : Prop) (e : Bool) (a B a1 B1 b : Nat) (x : AV) (g0 : G) : Option (CR × PM × G) := testS e (told c g0) fun z g => onLast b g (match z with | true => prAA K a b x g | false => prAB K a a1 B1 b x g) (fun b2 => prBB K a B a1 B1 b b2 x g)
theorem prAdd_ok {P : Program} {K : WKind} {f : FuncId} {vs : List Value} {c : Prop} {e : Bool} {a B a1 B1 b : Nat} {x : AV} {x1 : Value} {g : G} {q : CR × PM × G} (hL : c → LCd P K f vs a B a1 B1 x1) (h0 : e = true → a = 0 → a1 = 0) (hx : ∀ ρ D, VR ρ D x x1) (h : prAdd K c e a B a1 B1 b x g = some q) : PrSays P f b vs g q := by
  obtain ⟨z, g1, hp1, hc1, hA⟩ := testS_some h
  clear h
  have hp : Pc g g1 := ⟨hp1.h, hp1.nx, fun p => (hp1.pc p).2⟩
  have mo : Le g1 q.2.2 → Le g q.2.2 := fun hl => ⟨fun p => hp.pc (hl.pc p), by rw [← hp.nx]; exact hl.nx⟩
  rcases onLast_some hA with hB | ⟨b2, hB⟩
  · cases z with
    | true =>
      simp only at hB
      obtain ⟨hl, hpm⟩ := prMo.1 hB
      refine ⟨fun hpc => (prAA_ok (K := K) (B := B) (B1 := B1) (fun ha => ?_) hx hB).pcL hp, mo hl, hpm⟩
      have := hL (hp1.pc (hl.pc hpc)).1
      rw [h0 (hc1 (hl.pc hpc)) ha] at this
      exact this
    | false =>
      simp only at hB
      obtain ⟨hl, hpm⟩ := prMo.2.1 _ _ hB
      refine ⟨fun hpc => (prAB_ok (K := K) (B := B) (fun ha => ?_) hx hB).pcL hp, mo hl, hpm⟩
      exact hL (hp1.pc (hl.pc hpc)).1
  · obtain ⟨hl, hpm⟩ := prMo.2.2 _ _ _ _ hB
    exact ⟨fun hpc => (prBB_ok (hL (hp1.pc (hl.pc hpc)).1) hx hB).pcL hp, mo hl, hpm⟩
/-- a table of primitives is sound -/
theorem callOk_of {P : Program} {prim : CallT} (h : ∀ pm f args g q, prim pm f args g = some q → pm = .no ∧ FnOk P f ∧ ∃ b ys, args = .ptr b 0 :: ys ∧ ((q.2.2.pc → ∃ vs, (∀ ρ D us, LR ρ D ys us → us = vs) ∧ PrOk P f b vs g q) ∧ Le g q.2.2 ∧ q.2.1 = .no)) : CallOk P prim := by
  constructor
  · intro pm f args g cr pm' g' hh
    obtain ⟨_, _, b, ys, _, _, hl, _⟩ := h _ _ _ _ _ hh
    exact hl
  · intro pm f args g cr pm' g' hh
    obtain ⟨rfl, hf, b, ys, rfl, hq, hl, hpm⟩ := h _ _ _ _ _ hh
    refine ⟨hf, fun E ρ vs w hpc hE hgl hL hw => ⟨fun _ => ?_, fun hno => by cases hno⟩⟩
    obtain ⟨vs1, huniq, hok⟩ := hq hpc
    cases vs with
    | nil => have := hL.1; simp at this
    | cons p us =>
      have hp : VR ρ (Dm E g.nx) (.ptr b 0) p := hL.2 0 _ _ rfl rfl
      have hu : LR ρ (Dm E g.nx) ys us := ⟨by have := hL.1; simpa using this, fun i x a hx ha => hL.2 (i + 1) x a (by simpa using hx) (by simpa using ha)⟩
      rw [huniq _ _ _ hu]
      exact hok.ok E ρ w p hpc hE hp hw
open Go.Proofs Go.Proofs.Yticfagianocfiaa Go.RowKit
set_option maxRecDepth 1000000
theorem fnOk {f : FuncId} {fn : Func} {c : Code} (hf : Try.prog.funcs[f]? = some fn) (hb : fn.body = some c) (hn : (fn.name == "runtime.NumGoroutine") = false) : FnOk Try.prog f := ⟨fn, c, hf, hb, hn⟩
theorem ok13 : FnOk Try.prog 13 := fnOk Try.func13 fits13.1 (by kernel_rfl)
theorem ok16 : FnOk Try.prog 16 := fnOk Try.func16 fits16.1 (by kernel_rfl)
theorem ok17 : FnOk Try.prog 17 := fnOk Try.func17 fits17.1 (by kernel_rfl)
/-- what holds of the bits -/
def Fine (a B : Nat) : Prop := B < 2 ^ a ∧ a < 2 ^ 42
theorem up8_zero {a : Nat} (h : a = 0) : up8 a = 0 := by subst h; rfl
theorem int2 {v n : Int} {s s' : Bool} {k k' : IntKind} : ∀ (ρ : Rn) (D : Nat → Prop) us, LR ρ D [.int s k v, .int s' k' n] us → us = [.int k v, .int k' n] := by
  intro ρ D us h
  obtain ⟨h1, h2⟩ := h
  match us, h1 with
  | [u1, u2], _ =>
    obtain rfl := (h2 0 _ u1 rfl rfl).int_inv
    obtain rfl := (h2 1 _ u2 rfl rfl).int_inv
    rfl
theorem nil0 : ∀ (ρ : Rn) (D : Nat → Prop) us, LR ρ D [] us → us = [] := fun ρ D us h => List.length_eq_zero_iff.1 h.1.symm
/-- the primitives of the writers, at the bits B, so many as a -/
noncomputable def pP13 (a B : Nat) (args : List AV) (g : G) : Option (CR × PM × G) := match args with
  | [.ptr b 0] => prDet KR (Fine a B) a B (up8 a) B b (.tup []) g
  | _ => none
noncomputable def pPut (K : WKind) (a B : Nat) (args : List AV) (g : G) : Option (CR × PM × G) := match args with
  | [.ptr b 0, .int _ .u32 v, .int _ .i64 n] => prPut K a B b v n g
  | _ => none
noncomputable def bP (a B : Nat) : CallT := fun pm f args g => match pm with
  | .no => bif f.beq 16 then pPut KW a B args g else bif f.beq 17 then pPut KR a B args g else bif f.beq 13 then pP13 a B args g else none
  | _ => none
theorem tup0_vr (ρ : Rn) (D : Nat → Prop) : VR ρ D (.tup []) (.tuple #[]) := .tup [] #[] rfl (fun i x a hx => by simp at hx)
theorem bifNone {α : Type} {c : Bool} {x y : Option α} {r : α} (h : (bif c then x else y) = some r) : (c = true ∧ x = some r) ∨ (c = false ∧ y = some r) := by
  cases c with
  | true => exact .inl ⟨rfl, h⟩
  | false => exact .inr ⟨rfl, h⟩
theorem pPut_some {K : WKind} {f : FuncId} {a B : Nat} {args : List AV} {g : G} {q : CR × PM × G} (yes : ∀ (a B v : Nat) (n : Int), B < 2 ^ a → v < 2 ^ 32 → a < 2 ^ 42 → Takes v n → LCd Try.prog K f [.int .u32 v, .int .i64 n] a B (a + n.toNat) (B + v * 2 ^ a) (.int .i64 0))
    (no : ∀ (a B v : Nat) (n : Int), B < 2 ^ a → v < 2 ^ 32 → a < 2 ^ 42 → ¬ Takes v n → LCd Try.prog K f [.int .u32 v, .int .i64 n] a B a B (.int .i64 1)) (h : pPut K a B args g = some q) :
    ∃ b ys, args = .ptr b 0 :: ys ∧ ((q.2.2.pc → ∃ vs, (∀ ρ D us, LR ρ D ys us → us = vs) ∧ PrOk Try.prog f b vs g q) ∧ Le g q.2.2 ∧ q.2.1 = .no) := by
  unfold pPut at h
  split at h
  · rename_i b s v s' n
    obtain ⟨h1, h2, h3⟩ := prPut_ok (P := Try.prog) (f := f) yes no h
    exact ⟨b, _, rfl, fun hpc => ⟨_, int2, h1 hpc⟩, h2, h3⟩
  · cases h
theorem pP13_some {a B : Nat} {args : List AV} {g : G} {q : CR × PM × G} (h : pP13 a B args g = some q) :
    ∃ b ys, args = .ptr b 0 :: ys ∧ ((q.2.2.pc → ∃ vs, (∀ ρ D us, LR ρ D ys us → us = vs) ∧ PrOk Try.prog 13 b vs g q) ∧ Le g q.2.2 ∧ q.2.1 = .no) := by
  unfold pP13 at h
  split at h
  · rename_i b
    obtain ⟨h1, h2, h3⟩ := prDet_ok (P := Try.prog) (f := 13) (vs := []) (x1 := .tuple #[]) (fun hc => ral_lc a B hc.1 (Nat.lt_trans hc.2 (by omega))) up8_zero tup0_vr h
    exact ⟨b, _, rfl, fun hpc => ⟨_, nil0, h1 hpc⟩, h2, h3⟩
  · cases h
theorem bP_ok (a B : Nat) : CallOk Try.prog (bP a B) := by
  refine callOk_of fun pm f args g q h => ?_
  unfold bP at h
  split at h
  · refine ⟨rfl, ?_⟩
    rcases bifNone h with ⟨e, h⟩ | ⟨_, h⟩
    · obtain rfl := beq_iff.1 e
      exact ⟨ok16, pPut_some put_yes put_no h⟩
    · rcases bifNone h with ⟨e, h⟩ | ⟨_, h⟩
      · obtain rfl := beq_iff.1 e
        exact ⟨ok17, pPut_some bit_yes bit_no h⟩
      · rcases bifNone h with ⟨e, h⟩ | ⟨_, h⟩
        · obtain rfl := beq_iff.1 e
          exact ⟨ok13, pP13_some h⟩
        · cases h
  · cases h
noncomputable def bCP (a B : Nat) : CallT := callN bT (bP a B) 1000 20
theorem bCP_ok (a B : Nat) : CallOk Try.prog (bCP a B) := sx_ok bT_ok bM (bP_ok a B) 1000 20
/-! the reference's Add -/
def numB : List Nat → Nat
  | [] => 0
  | b :: r => b + 256 * numB r
theorem numB_snoc (l : List Nat) (x : Nat) : numB (l ++ [x]) = numB l + x * 2 ^ (8 * l.length) := by
  induction l with
  | nil => simp [numB]
  | cons b r ih =>
    rw [List.cons_append, numB, numB, ih, List.length_cons, show 8 * (r.length + 1) = 8 + 8 * r.length from by omega, Nat.pow_add, Nat.mul_add, ← Nat.add_assoc, ← Nat.mul_assoc, ← Nat.mul_assoc]
    rw [Nat.mul_comm 256 x]
theorem numB_lt (l : List Nat) (h : ∀ x ∈ l, x < 256) : numB l < 2 ^ (8 * l.length) := by
  induction l with
  | nil => simp [numB]
  | cons b r ih =>
    have h1 := h b (List.mem_cons_self ..)
    have h2 := ih fun x hx => h x (List.mem_cons_of_mem _ hx)
    rw [numB, List.length_cons, show 8 * (r.length + 1) = 8 + 8 * r.length from by omega, Nat.pow_add]
    have : 256 * (numB r + 1) ≤ 256 * 2 ^ (8 * r.length) := Nat.mul_le_mul_left _ h2
    omega
noncomputable def R15 : Code := c1 (bodyOf 15)
noncomputable def I15 : Code := c1 (c2 (bodyOf 15))
noncomputable def L15 : Code := c1 (c1 (c2 (c2 (bodyOf 15))))
theorem body15 : bodyOf 15 = .seq R15 (.seq I15 (.block 0 (.loop L15))) := by kernel_rfl
theorem wf15 : wf 19 R15 = true ∧ wf 19 I15 = true ∧ wf 19 L15 = true := ⟨by kernel_rfl, by kernel_rfl, by kernel_rfl⟩
theorem fits15 : Try.f15.body = some (bodyOf 15) ∧ Try.f15.ntmps = 19 := ⟨by kernel_rfl, by kernel_rfl⟩
noncomputable def f15 (s : List Nat) : Tr AV := mkEnv 19 [(0, .ptr 1000 0), (1, .str true s)]
noncomputable def e15 (s : List Nat) (i : Int) : Tr AV := mkEnv 19 [(0, .ptr 1000 0), (1, .str true s), (4, .int true .i64 i)]
/-- what a primitive tells of a struct -/
noncomputable def cdBB (a B a1 : Nat) (xs : List Int) (l : Nat) : Prop := 42 = KR.t ∧ [AV.sl true 1001 0 l (.un 0)] = (KR.pre a).map (.int true .i64) ++ [.sl true 1001 0 (KR.len a) (.un 0)] ∧ false = false ∧ 5 = 5 ∧ IntKind.u8 = .u8 ∧ xs = KR.row a B ∧ true = true ∧ 0 < a ∧ 0 < a1
noncomputable def cdA (a : Nat) : Prop := 42 = KR.t ∧ [AV.nils] = KR.preA.map (.int false .i64) ++ [.nils] ∧ false = false ∧ a = 0
theorem r15a (B : Nat) (s : List Nat) : wkX 19 [0, 1] m1 1001 (exec R15 bT (bCP 0 B) 1000 (sX none (f15 s) True [])) = some (.normal, sX none (f15 s) (cdA 0 ∧ Fine 0 B ∧ True) []) := by kernel_rfl
theorem r15b (a B : Nat) (xs : List Int) (l : Nat) (s : List Nat) : wkX 19 [0, 1] (m2n 1002) 1002 (exec R15 bT (bCP a B) 1000 (sX (some (xs, l)) (f15 s) True [])) = some (.normal, sX (some (rb (up8 a) B, up8 a)) (f15 s) (cdBB a B (up8 a) xs l ∧ Fine a B ∧ True) []) := by kernel_rfl
theorem i15' (x : Option (List Int × Nat)) (s : List Nat) : wkX 19 [0, 1, 4] (mX x) (nxX x) (exec I15 bT bC 1000 (sX x (f15 s) True [])) = some (.normal, sX x (mkEnv 19 [(0, .ptr 1000 0), (1, .str true s), (4, .int false .i64 0)]) True []) := by cases x <;> kernel_rfl
theorem l15z (x : Option (List Int × Nat)) (s : List Nat) (i : Int) : wkX 19 [0, 1, 4] (mX x) (nxX x) (exec L15 bT bC 1000 (sX x (e15 s i) True [false])) = some (.exit 0, sX x (e15 s i) (ilt i s.length = false ∧ True) []) := by cases x <;> kernel_rfl
noncomputable def by15 (s : List Nat) (i : Int) : Int := wr .u32 (byteAt s i)
theorem l15a (B : Nat) (s : List Nat) (i : Int) : wkX 19 [0, 1, 4] (m2n 1001) 1002 (exec L15 bT (bCP 0 B) 1000 (sX none (e15 s i) True [true, true, false])) = some (.normal, sX (some (rb (0 + (8 : Int).toNat) (B + (by15 s i).toNat * 2 ^ 0), 0 + (8 : Int).toNat)) (e15 s (wr .i64 (i.add 1)))
    ((42 = KR.t ∧ [AV.nils] = KR.preA.map (.int false .i64) ++ [.nils] ∧ false = false ∧ 0 = 0 ∧ 0 < 0 + (8 : Int).toNat) ∧ ieq 8 0 = false ∧ takesB (by15 s i) 8 = true ∧ (0 ≤ by15 s i ∧ by15 s i < 4294967296 ∧ B < 2 ^ 0 ∧ 0 < 2 ^ 42) ∧ inB i s.length = true ∧ ilt i s.length = true ∧ True) []) := by kernel_rfl
theorem l15b (a B : Nat) (xs : List Int) (l : Nat) (s : List Nat) (i : Int) : wkX 19 [0, 1, 4] (m2n 1002) 1002 (exec L15 bT (bCP a B) 1000 (sX (some (xs, l)) (e15 s i) True [true, true])) = some (.normal, sX (some (rb (a + (8 : Int).toNat) (B + (by15 s i).toNat * 2 ^ a), a + (8 : Int).toNat)) (e15 s (wr .i64 (i.add 1)))
    (cdBB a B (a + (8 : Int).toNat) xs l ∧ takesB (by15 s i) 8 = true ∧ (0 ≤ by15 s i ∧ by15 s i < 4294967296 ∧ B < 2 ^ a ∧ a < 2 ^ 42) ∧ inB i s.length = true ∧ ilt i s.length = true ∧ True) []) := by kernel_rfl
theorem by15_nat (s : List Nat) (i : Nat) (h : ∀ x ∈ s, x < 256) (hi : i < s.length) : by15 s (i : Int) = ((s[i] : Nat) : Int) := by
  unfold by15 byteAt
  have e : (i : Int).toNat = i := Int.toNat_natCast i
  rw [e, List.getElem?_eq_getElem hi]
  have := h _ (List.getElem_mem hi)
  show wr .u32 ((s[i] : Nat) : Int) = _
  exact wr_u32 (by omega) (by omega)
section
variable {ρ0 : Rn} {H0 : Nat → Option AObj} {w0 : World} {act : Act} {w : World}
theorem add_round {a B : Nat} {s : List Nat} {i : Nat} (hB : B < 2 ^ a) (ha : a < 2 ^ 42) (h : ∀ x ∈ s, x < 256) (hi : i < s.length) (hl : s.length < 2 ^ 60) (hs : SL Try.prog 19 [1000] ρ0 H0 w0 (sX (xR a B) (e15 s i) True []) act w) :
    L15.wp Try.prog (fun x a' w' => x = .normal ∧ SL Try.prog 19 [1000] ρ0 H0 w0 (sX (xR (a + 8) (B + s[i] * 2 ^ a)) (e15 s ((i + 1 : Nat) : Int)) True []) a' w') act w := by
  have e1 := by15_nat s i h hi
  have hx := h _ (List.getElem_mem hi)
  have e2 : wr .i64 ((i : Int).add 1) = ((i + 1 : Nat) : Int) := by show wr .i64 ((i : Int) + 1) = _; rw [wr_i64 (by omega) (by omega)]; omega
  have e8 : (8 : Int).toNat = 8 := rfl
  have c1 : takesB (by15 s (i : Int)) 8 = true := by rw [e1]; exact takesB_iff.2 ⟨by omega, by omega, by rw [e8]; omega⟩
  have c2 : inB (i : Int) s.length = true := inB_t (by omega) (by omega)
  have c3 : ilt (i : Int) s.length = true := ilt_t (by omega)
  have c4 : 0 ≤ by15 s (i : Int) ∧ by15 s (i : Int) < 4294967296 ∧ B < 2 ^ a ∧ a < 2 ^ 42 := by rw [e1]; exact ⟨by omega, by omega, hB, ha⟩
  rw [xR_pos _ (by omega)]
  rcases Nat.eq_zero_or_pos a with rfl | hpos
  · have e0 := l15a B s i
    rw [e2] at e0
    refine wp_mono (exec_sl bT_ok bM (bCP_ok 0 B) wf15.2.2 e0 ok2n (fun v h => by cases h) ⟨⟨rfl, rfl, rfl, rfl, by omega⟩, rfl, c1, c4, c2, c3, trivial⟩ rfl rfl kp2n (hs.alike rfl rfl rfl)) ?_
    rintro x a' w' ⟨hx, hs'⟩
    obtain rfl := hx.normal
    rw [e1, Int.toNat_natCast] at hs'
    exact ⟨rfl, hs'.alike rfl rfl rfl⟩
  · have e0 := l15b a B (rb a B) a s i
    rw [e2] at e0
    rw [xR_pos _ hpos] at hs
    refine wp_mono (exec_sl bT_ok bM (bCP_ok a B) wf15.2.2 e0 ok2n (fun v h => by cases h) ⟨⟨rfl, rfl, rfl, rfl, rfl, rfl, rfl, hpos, by omega⟩, c1, c4, c2, c3, trivial⟩ rfl rfl kp2n (hs.alike rfl rfl rfl)) ?_
    rintro x a' w' ⟨hx, hs'⟩
    obtain rfl := hx.normal
    rw [e1, Int.toNat_natCast] at hs'
    exact ⟨rfl, hs'.alike rfl rfl rfl⟩
theorem add_loop {a B : Nat} {s : List Nat} (hB : B < 2 ^ a) (ha : a + 8 * s.length < 2 ^ 42) (h : ∀ x ∈ s, x < 256) (hs : SL Try.prog 19 [1000] ρ0 H0 w0 (sX (xR a B) (e15 s 0) True []) act w) :
    (Code.block 0 (.loop L15)).wp Try.prog (fun x a' w' => x = .normal ∧ SL Try.prog 19 [1000] ρ0 H0 w0 (sX (xR (a + 8 * s.length) (B + numB s * 2 ^ a)) (e15 s (s.length : Int)) True []) a' w') act w := by
  refine wp_block (loop_sl (ι := Nat) (fun i => sX (xR (a + 8 * i) (B + numB (s.take i) * 2 ^ a)) (e15 s (i : Int)) True []) (fun i => i ≤ s.length) (fun i => s.length - i) 0 (Nat.zero_le _) (by simpa [numB] using hs) ?_)
  intro i hi act w hs
  rcases Nat.lt_or_ge i s.length with hlt | hge
  · have hBi : B + numB (s.take i) * 2 ^ a < 2 ^ (a + 8 * i) := by
      have h1 := numB_lt (s.take i) fun x hx => h x (List.mem_of_mem_take hx)
      rw [List.length_take, Nat.min_eq_left (by omega)] at h1
      have h2 : (numB (s.take i) + 1) * 2 ^ a ≤ 2 ^ (8 * i) * 2 ^ a := Nat.mul_le_mul_right _ h1
      rw [Nat.add_mul, Nat.one_mul] at h2
      rw [Nat.add_comm a, Nat.pow_add]
      omega
    refine wp_mono (add_round hBi (by omega) h hlt (by omega) hs) ?_
    rintro x a' w' ⟨rfl, hs'⟩
    have e : s.take (i + 1) = s.take i ++ [s[i]] := (List.take_append_getElem hlt).symm
    have e2 : B + numB (s.take (i + 1)) * 2 ^ a = B + numB (s.take i) * 2 ^ a + s[i] * 2 ^ (a + 8 * i) := by
      rw [e, numB_snoc, List.length_take, Nat.min_eq_left (by omega), Nat.add_mul, Nat.mul_assoc, ← Nat.pow_add, Nat.add_comm (8 * i) a, Nat.add_assoc]
    have g3 : s.length - (i + 1) < s.length - i := by omega
    exact ⟨i + 1, hlt, g3, by rw [e2, show a + 8 * (i + 1) = a + 8 * i + 8 from by omega]; exact hs'⟩
  · obtain rfl : i = s.length := by omega
    refine wp_mono (exec_sl bT_ok bM bC_ok wf15.2.2 (l15z _ s (s.length : Int)) (okX _) (fun v h => by cases h) ⟨ilt_f (by omega), trivial⟩ rfl rfl (kpX _) (hs.alike rfl rfl rfl)) ?_
    rintro x a' w' ⟨hx, hs'⟩
    obtain rfl := hx.exit
    rw [List.take_length] at hs'
    exact ⟨rfl, hs'.alike rfl rfl rfl⟩
end
theorem bts_eq {a b : ByteArray} (h : bts a = bts b) : a = b := by
  have h3 : a.data = b.data := Array.toList_inj.1 (bts_inj h)
  cases a; cases b
  simp only at h3
  rw [h3]
theorem str1 {s : Bool} {b : ByteArray} : ∀ (ρ : Rn) (D : Nat → Prop) us, LR ρ D [.str s (bts b)] us → us = [.string b] := by
  intro ρ D us h
  obtain ⟨h1, h2⟩ := h
  match us, h1 with
  | [u1], _ =>
    obtain ⟨b2, rfl, e⟩ := (h2 0 _ u1 rfl rfl).str_inv
    rw [bts_eq e]
theorem radd_lc (a B : Nat) (b : ByteArray) (hB : B < 2 ^ a) (ha : a < 2 ^ 41) (hl : b.size < 2 ^ 37) : LCd Try.prog KR 15 [.string b] a B (up8 a + 8 * b.size) (B + numB (bts b) * 2 ^ up8 a) (.tuple #[]) := by
  have hlen : (bts b).length = b.size := bts_length b
  have hb : ∀ x ∈ bts b, x < 256 := fun x hx => by
    unfold bts at hx
    obtain ⟨u, _, rfl⟩ := List.mem_map.1 hx
    exact u.toNat_lt
  refine lcd_of (xs := [.str true (bts b)]) (xr := .tup []) Try.func15 fits15.1 fits15.2 (by omega) (by simp) (fun ρ D => LR.cons (.str _ _) (LR.nil _ _)) (fun ρ D v hv => tup0 hv) ?_
  intro ρ0 H0 w0 act w hs
  rw [body15]
  have h0 : SL Try.prog 19 [1000] ρ0 H0 w0 (sX (xR a B) (f15 (bts b)) True []) act w := hs.look (l := [(0, .ptr 1000 0), (1, .str true (bts b))]) rfl (fun p hp => by
    rcases List.mem_cons.1 hp with rfl | hp
    · rfl
    · obtain rfl := List.mem_singleton.1 hp; kernel_rfl) (by rw [← xR_nx a B]; rfl) (by rw [← xR_h a B]; rfl)
  have hB8 : B < 2 ^ up8 a := Nat.lt_of_lt_of_le hB (Nat.pow_le_pow_right (by omega) (by unfold up8; omega))
  refine wp_seq (wp_mono (Q := fun x a' w' => x = .normal ∧ SL Try.prog 19 [1000] ρ0 H0 w0 (sX (xR (up8 a) B) (f15 (bts b)) True []) a' w') ?_ ?_)
  · rcases Nat.eq_zero_or_pos a with rfl | hpos
    · refine wp_mono (exec_sl bT_ok bM (bCP_ok 0 B) wf15.1 (r15a B (bts b)) ok1 (fun v h => by cases h) ⟨⟨rfl, rfl, rfl, rfl⟩, ⟨hB, by omega⟩, trivial⟩ rfl rfl kp1 h0) ?_
      rintro x a' w' ⟨hx, hs'⟩
      obtain rfl := hx.normal
      exact ⟨rfl, hs'.alike rfl rfl rfl⟩
    · rw [xR_pos _ hpos] at h0
      refine wp_mono (exec_sl bT_ok bM (bCP_ok a B) wf15.1 (r15b a B (rb a B) a (bts b)) ok2n (fun v h => by cases h) ⟨⟨rfl, rfl, rfl, rfl, rfl, rfl, rfl, hpos, by unfold up8; omega⟩, ⟨hB, by omega⟩, trivial⟩ rfl rfl kp2n h0) ?_
      rintro x a' w' ⟨hx, hs'⟩
      obtain rfl := hx.normal
      rw [xR_pos _ (by unfold up8; omega)]
      exact ⟨rfl, hs'.alike rfl rfl rfl⟩
  · rintro x a1 w1 ⟨rfl, h1⟩
    refine wp_seq (wp_mono (exec_sl bT_ok bM bC_ok wf15.2.1 (i15' _ (bts b)) (okX _) (fun v h => by cases h) trivial rfl rfl (kpX _) h1) ?_)
    rintro x a2 w2 ⟨hx, h2⟩
    obtain rfl := hx.normal
    refine wp_mono (add_loop hB8 (by rw [hlen]; unfold up8; omega) hb (h2.sim rfl rfl (.same (.same (.int .nil))) rfl rfl)) ?_
    rintro x a3 w3 ⟨rfl, h3⟩
    rw [hlen] at h3
    exact ⟨.inl rfl, _, True, [], [], h3.alike rfl (by rw [← xR_nx (up8 a + 8 * b.size) (B + numB (bts b) * 2 ^ up8 a)]; rfl) (by rw [← xR_h (up8 a + 8 * b.size) (B + numB (bts b) * 2 ^ up8 a)]; rfl), trivial, by kernel_rfl, rfl⟩
open Go.Proofs Go.Proofs.Yticfagianocfiaa Go.RowKit
set_option maxRecDepth 1000000
/-! the reference's String -/
def nbytes (k B : Nat) : List Nat := (List.range k).map fun i => B / 2 ^ (8 * i) % 256
def toBa (l : List Nat) : ByteArray := ⟨(l.map UInt8.ofNat).toArray⟩
theorem bts_toBa (l : List Nat) (h : ∀ x ∈ l, x < 256) : bts (toBa l) = l := by
  unfold bts toBa
  simp only [List.map_map]
  rw [List.map_congr_left (g := id)]
  · simp
  · intro x hx
    have := h x hx
    simp only [Function.comp, id]
    rw [UInt8.toNat_ofNat']
    exact Nat.mod_eq_of_lt this
theorem nbytes_lt (k B : Nat) : ∀ x ∈ nbytes k B, x < 256 := by
  intro x hx
  obtain ⟨i, _, rfl⟩ := List.mem_map.1 hx
  exact Nat.mod_lt _ (by omega)
theorem bytes_nat (k B : Nat) : (bytes k B).map (fun v => Nat.mod v.toNat 256) = nbytes k B := by
  unfold bytes nbytes
  rw [List.map_map]
  apply List.map_congr_left
  intro i _
  show ((B / 2 ^ (8 * i) % 256 : Nat) : Int).toNat % 256 = _
  rw [Int.toNat_natCast]
  exact Nat.mod_eq_of_lt (Nat.mod_lt _ (by omega))
theorem bytes_put (k a B x : Nat) (hB : B < 2 ^ a) (hx : x < 2) (hk : a / 8 < k) : (bytes k B).set (a / 8) ((B / 2 ^ (8 * (a / 8)) % 256 + x * 2 ^ (a % 8) : Nat) : Int) = bytes k (B + x * 2 ^ a) := by
  have hlt : B + x * 2 ^ a < 2 ^ (a + 1) := by
    have : x * 2 ^ a ≤ 1 * 2 ^ a := Nat.mul_le_mul_right _ (by omega)
    rw [Nat.pow_succ]; omega
  apply List.ext_getElem
  · rw [List.length_set, bytes_length, bytes_length]
  · intro i h1 h2
    rw [List.length_set, bytes_length] at h1
    rw [List.getElem_set, bytes_get, bytes_get]
    by_cases hi : a / 8 = i
    · rw [if_pos hi]
      subst hi
      have hs : a - 8 * (a / 8) = a % 8 := by omega
      rw [up_div _ _ _ _ (by omega), hs]
      have hb : B / 2 ^ (8 * (a / 8)) < 2 ^ (a % 8) := by
        rw [Nat.div_lt_iff_lt_mul (Nat.two_pow_pos _), ← Nat.pow_add]
        rw [show a % 8 + 8 * (a / 8) = a from by omega]; exact hB
      have h8 : 2 ^ (a % 8) ≤ 2 ^ 7 := Nat.pow_le_pow_right (by omega) (by omega)
      have h9 : x * 2 ^ (a % 8) ≤ 1 * 2 ^ (a % 8) := Nat.mul_le_mul_right _ (by omega)
      have hsum : B / 2 ^ (8 * (a / 8)) + x * 2 ^ (a % 8) < 256 := by omega
      rw [Nat.mod_eq_of_lt (by omega), Nat.mod_eq_of_lt hsum]
    · rw [if_neg hi]
      congr 1
      rcases Nat.lt_or_ge i (a / 8) with hlt2 | hge
      · rw [up_div _ _ _ _ (by omega)]
        have e : 2 ^ (a - 8 * i) = 2 ^ (a - 8 * i - 8) * 256 := by
          rw [show (256 : Nat) = 2 ^ 8 from rfl, ← Nat.pow_add]; congr 1; omega
        rw [e, ← Nat.mul_assoc, Nat.add_mul_mod_self_right]
      · have hp : 2 ^ (a + 1) ≤ 2 ^ (8 * i) := Nat.pow_le_pow_right (by omega) (by omega)
        have hp2 : 2 ^ a ≤ 2 ^ (8 * i) := Nat.pow_le_pow_right (by omega) (by omega)
        rw [Nat.div_eq_of_lt (by omega), Nat.div_eq_of_lt (by omega)]
theorem rb_getD (a B i : Nat) (h : i < a) : (rb a B).getD i 0 = ((B / 2 ^ i % 2 : Nat) : Int) := by
  rw [List.getD_eq_getElem?_getD, List.getElem?_eq_getElem (by rw [rb_length]; exact h), Option.getD_some]
  simp [rb]
noncomputable def R20 : Code := c1 (bodyOf 20)
noncomputable def I20 : Code := c1 (c2 (bodyOf 20))
noncomputable def J20 : Code := c1 (c1 (c2 (c2 (bodyOf 20))))
noncomputable def L20 : Code := c1 (c1 (c2 (c1 (c2 (c2 (bodyOf 20))))))
noncomputable def Z20 : Code := c2 (c2 (c2 (bodyOf 20)))
theorem body20 : bodyOf 20 = .seq R20 (.seq I20 (.seq (.seq J20 (.block 0 (.loop L20))) Z20)) := by kernel_rfl
theorem wf20 : wf 45 R20 = true ∧ wf 45 I20 = true ∧ wf 45 J20 = true ∧ wf 45 L20 = true ∧ wf 45 Z20 = true ∧ wf 45 (bodyOf 20) = true := ⟨by kernel_rfl, by kernel_rfl, by kernel_rfl, by kernel_rfl, by kernel_rfl, by kernel_rfl⟩
theorem fits20 : Try.f20.body = some (bodyOf 20) ∧ Try.f20.ntmps = 45 := ⟨by kernel_rfl, by kernel_rfl⟩
noncomputable def e20 (m : Nat) (l : List (Nat × AV)) : Tr AV := mkEnv 45 ((0, .ptr 1000 0) :: (3, .sl true 1002 0 m (.kn m)) :: l)
noncomputable def hRS (xs ys : List Int) (l : Nat) : Tr AObj := mkH [(1000, some (.cells 42 [.sl true 1001 0 l (.un 0)] false)), (1001, some (.nums 5 .u8 xs true)), (1002, some (.nums 5 .u8 ys false))]
noncomputable def s20 (xs ys : List Int) (l m : Nat) (e : List (Nat × AV)) (pc : Prop) (ch : List Bool) : St := ⟨e20 m e, ⟨hRS xs ys l, 1003, pc, ch⟩, [], .no, []⟩
def m3 : List Mv := [⟨1000, 1000, false⟩, ⟨1001, 1001, false⟩, ⟨1002, 1002, false⟩]
theorem okm3 : okM m3 1003 = true := by kernel_rfl
theorem kpm3 : keepF [1000] m3 1003 = true := by kernel_rfl
noncomputable def z20 (s : Bool) (r : List Nat) : Tr AV := mkEnv 45 [(2, .str s r)]
noncomputable def kk (l : Nat) : Int := wr .i64 ((wr .i64 ((l : Int).add 7)).tdiv 8)
theorem a20 : wkX 45 [2] m1 1001 (exec (bodyOf 20) bT bC 1000 (sX none (argsEnv [.ptr 1000 0] 0 .e) True [])) = some (.ret, sX none (z20 false []) True []) := by kernel_rfl
theorem r20 (xs : List Int) (l : Nat) : wkX 45 [0] (m2n 1001) 1002 (exec R20 bT bC 1000 (sX (some (xs, l)) (argsEnv [.ptr 1000 0] 0 .e) True [])) = some (.normal, sX (some (xs, l)) (mkEnv 45 [(0, .ptr 1000 0)]) True []) := by kernel_rfl
theorem i20 (xs : List Int) (l : Nat) : wkX 45 [0, 3] m3 1003 (exec I20 bT bC 1000 (sX (some (xs, l)) (mkEnv 45 [(0, .ptr 1000 0)]) True [])) = some (.normal, s20 xs (List.replicate (kk l).toNat 0) l (kk l).toNat []
    ((((kk l).toNat * 1).ble 140737488355328 && (kk l).toNat.ble 140737488355328) = true ∧ (!ilt (kk l) 0 && !ilt (kk l) (kk l)) = true ∧ True) []) := by kernel_rfl
theorem j20 (xs ys : List Int) (l m : Nat) : wkX 45 [0, 3, 4] m3 1003 (exec J20 bT bC 1000 (s20 xs ys l m [] True [])) = some (.normal, s20 xs ys l m [(4, .int false .i64 0)] True []) := by kernel_rfl
noncomputable def q20 (i : Int) : Int := wr .i64 (i.tdiv 8)
noncomputable def x20 (xs ys : List Int) (i : Int) : Int := wr .u8 ((ys.getD (0 + (q20 i).toNat) 0).add (wr .u8 ((xs.getD (0 + i.toNat) 0).mul (pow2 (wr .u64 (i.tmod 8)) 8))))
theorem l20z (xs ys : List Int) (l m : Nat) (i : Int) : wkX 45 [0, 3, 4] m3 1003 (exec L20 bT bC 1000 (s20 xs ys l m [(4, .int true .i64 i)] True [false])) = some (.exit 0, s20 xs ys l m [(4, .int true .i64 i)] (ilt i l = false ∧ True) []) := by kernel_rfl
theorem l20b (xs ys : List Int) (l m : Nat) (i : Int) : wkX 45 [0, 3, 4] m3 1003 (exec L20 bT bC 1000 (s20 xs ys l m [(4, .int true .i64 i)] True [true])) = some (.normal, s20 xs (ys.set (0 + (q20 i).toNat) (x20 xs ys i)) l m [(4, .int true .i64 (wr .i64 (i.add 1)))]
    ((0 + (q20 i).toNat).blt ys.length = true ∧ inB (q20 i) m = true ∧ (!ilt (wr .u64 (i.tmod 8)) 0) = true ∧ (0 + i.toNat).blt xs.length = true ∧ inB i l = true ∧ (0 + (q20 i).toNat).blt ys.length = true ∧ inB (q20 i) m = true ∧ ilt i l = true ∧ True) []) := by kernel_rfl
theorem z20' (xs ys : List Int) (l m : Nat) (i : Int) : wkX 45 [2] (m2n 1001) 1002 (exec Z20 bT bC 1000 (s20 xs ys l m [(4, .int true .i64 i)] True [])) = some (.ret, sX (some (xs, l)) (z20 true ((List.take m (List.drop 0 ys)).map fun v => Nat.mod v.toNat 256)) ((0 + m).ble ys.length = true ∧ True) []) := by kernel_rfl
theorem kk_nat (a : Nat) (h : a < 2 ^ 60) : kk a = (((a + 7) / 8 : Nat) : Int) := by
  unfold kk
  have e1 : wr .i64 ((a : Int).add 7) = ((a + 7 : Nat) : Int) := by show wr .i64 ((a : Int) + 7) = _; rw [wr_i64 (by omega) (by omega)]; omega
  rw [e1]
  show wr .i64 (((a + 7) / 8 : Nat) : Int) = _
  rw [wr_i64 (by omega) (by omega)]
theorem step_bit (B i : Nat) : B % 2 ^ i + B / 2 ^ i % 2 * 2 ^ i = B % 2 ^ (i + 1) := by
  rw [Nat.pow_succ, Nat.mod_mul, Nat.mul_comm (2 ^ i)]
section
variable {ρ0 : Rn} {H0 : Nat → Option AObj} {w0 : World} {act : Act} {w : World}
theorem str_round {a B i : Nat} (hi : i < a) (ha : a < 2 ^ 50) (hs : SL Try.prog 45 [1000] ρ0 H0 w0 (s20 (rb a B) (bytes ((a + 7) / 8) (B % 2 ^ i)) a ((a + 7) / 8) [(4, .int true .i64 (i : Int))] True []) act w) :
    L20.wp Try.prog (fun x a' w' => x = .normal ∧ SL Try.prog 45 [1000] ρ0 H0 w0 (s20 (rb a B) (bytes ((a + 7) / 8) (B % 2 ^ (i + 1))) a ((a + 7) / 8) [(4, .int true .i64 ((i + 1 : Nat) : Int))] True []) a' w') act w := by
  have e2 : wr .i64 ((i : Int).add 1) = ((i + 1 : Nat) : Int) := by show wr .i64 ((i : Int) + 1) = _; rw [wr_i64 (by omega) (by omega)]; omega
  have eq : q20 (i : Int) = ((i / 8 : Nat) : Int) := by unfold q20; show wr .i64 ((i / 8 : Nat) : Int) = _; rw [wr_i64 (by omega) (by omega)]
  have eq2 : 0 + (q20 (i : Int)).toNat = i / 8 := by rw [eq, Nat.zero_add]; exact Int.toNat_natCast _
  have ei : 0 + (i : Int).toNat = i := by rw [Nat.zero_add]; exact Int.toNat_natCast _
  have em : (i : Int).tmod 8 = ((i % 8 : Nat) : Int) := rfl
  have ew : wr .u64 ((i : Int).tmod 8) = ((i % 8 : Nat) : Int) := by rw [em]; exact wr_u64 (by omega) (by omega)
  have hk : i / 8 < (a + 7) / 8 := by omega
  have hm : B % 2 ^ i < 2 ^ i := Nat.mod_lt _ (Nat.two_pow_pos _)
  have hx2 : B / 2 ^ i % 2 < 2 := Nat.mod_lt _ (by omega)
  have ex : x20 (rb a B) (bytes ((a + 7) / 8) (B % 2 ^ i)) (i : Int) = (((B % 2 ^ i) / 2 ^ (8 * (i / 8)) % 256 + B / 2 ^ i % 2 * 2 ^ (i % 8) : Nat) : Int) := by
    unfold x20
    rw [eq2, ei, ew, pow2_nat _ 8 (by omega), rb_getD a B i hi, bytes_getD _ _ _ hk]
    have hb : (B % 2 ^ i) / 2 ^ (8 * (i / 8)) < 2 ^ (i % 8) := by
      rw [Nat.div_lt_iff_lt_mul (Nat.two_pow_pos _), ← Nat.pow_add]
      rw [show i % 8 + 8 * (i / 8) = i from by omega]; exact hm
    have h8 : 2 ^ (i % 8) ≤ 2 ^ 7 := Nat.pow_le_pow_right (by omega) (by omega)
    have h9 : B / 2 ^ i % 2 * 2 ^ (i % 8) ≤ 1 * 2 ^ (i % 8) := Nat.mul_le_mul_right _ (by omega)
    have h10 : (B % 2 ^ i) / 2 ^ (8 * (i / 8)) % 256 ≤ (B % 2 ^ i) / 2 ^ (8 * (i / 8)) := Nat.mod_le _ _
    have f1 : wr .u8 (Int.mul ((B / 2 ^ i % 2 : Nat) : Int) ((2 ^ (i % 8) : Nat) : Int)) = ((B / 2 ^ i % 2 * 2 ^ (i % 8) : Nat) : Int) := by
      show wr .u8 (((B / 2 ^ i % 2 : Nat) : Int) * ((2 ^ (i % 8) : Nat) : Int)) = _
      rw [show ((B / 2 ^ i % 2 : Nat) : Int) * ((2 ^ (i % 8) : Nat) : Int) = ((B / 2 ^ i % 2 * 2 ^ (i % 8) : Nat) : Int) from (Int.natCast_mul _ _).symm]
      exact wr_u8 (Int.natCast_nonneg _) (Int.ofNat_lt.2 (show _ < 256 by omega))
    rw [f1]
    generalize (B % 2 ^ i) / 2 ^ (8 * (i / 8)) % 256 = u at *
    generalize B / 2 ^ i % 2 * 2 ^ (i % 8) = v at *
    show wr .u8 ((u : Int) + (v : Int)) = _
    rw [wr_u8 (by omega) (by omega)]
    omega
  have e0 := l20b (rb a B) (bytes ((a + 7) / 8) (B % 2 ^ i)) a ((a + 7) / 8) i
  rw [e2, ex, eq2, bytes_put _ _ _ _ hm hx2 hk, step_bit] at e0
  refine wp_mono (exec_sl bT_ok bM bC_ok wf20.2.2.2.1 e0 okm3 (fun v h => by cases h) ?_ rfl rfl kpm3 (hs.alike rfl rfl rfl)) ?_
  · have b1 : (i / 8).blt (bytes ((a + 7) / 8) (B % 2 ^ i)).length = true := blt_t (by rw [bytes_length]; exact hk)
    have b2 : inB (q20 (i : Int)) ((a + 7) / 8) = true := by rw [eq]; exact inB_t (by omega) (by omega)
    exact ⟨b1, b2, by rw [ew]; exact nilt_t (by omega), by rw [ei]; exact blt_t (by rw [rb_length]; exact hi), inB_t (by omega) (by omega), b1, b2, ilt_t (by omega), trivial⟩
  · rintro x a' w' ⟨hx, hs'⟩
    obtain rfl := hx.normal
    exact ⟨rfl, hs'.alike rfl rfl rfl⟩
theorem str_loop {a B : Nat} (hB : B < 2 ^ a) (ha : a < 2 ^ 50) (hs : SL Try.prog 45 [1000] ρ0 H0 w0 (s20 (rb a B) (bytes ((a + 7) / 8) 0) a ((a + 7) / 8) [(4, .int true .i64 0)] True []) act w) :
    (Code.block 0 (.loop L20)).wp Try.prog (fun x a' w' => x = .normal ∧ SL Try.prog 45 [1000] ρ0 H0 w0 (s20 (rb a B) (bytes ((a + 7) / 8) B) a ((a + 7) / 8) [(4, .int true .i64 (a : Int))] True []) a' w') act w := by
  refine wp_block (loop_sl (ι := Nat) (fun i => s20 (rb a B) (bytes ((a + 7) / 8) (B % 2 ^ i)) a ((a + 7) / 8) [(4, .int true .i64 (i : Int))] True []) (fun i => i ≤ a) (fun i => a - i) 0 (Nat.zero_le _) (by rw [Nat.pow_zero, Nat.mod_one]; exact hs) ?_)
  intro i hi act w hs
  rcases Nat.lt_or_ge i a with hlt | hge
  · refine wp_mono (str_round hlt ha hs) ?_
    rintro x a' w' ⟨rfl, hs'⟩
    have g3 : a - (i + 1) < a - i := by omega
    exact ⟨i + 1, hlt, g3, hs'⟩
  · obtain rfl : i = a := by omega
    rw [Nat.mod_eq_of_lt hB] at hs
    refine wp_mono (exec_sl bT_ok bM bC_ok wf20.2.2.2.1 (l20z _ _ _ _ _) okm3 (fun v h => by cases h) ⟨ilt_f (by omega), trivial⟩ rfl rfl kpm3 (hs.alike rfl rfl rfl)) ?_
    rintro x a' w' ⟨hx, hs'⟩
    obtain rfl := hx.exit
    exact ⟨rfl, hs'.alike rfl rfl rfl⟩
end
theorem rstr_lc (a B : Nat) (hB : B < 2 ^ a) (ha : a < 2 ^ 45) : LCd Try.prog KR 20 [] a B a B (.string (toBa (nbytes ((a + 7) / 8) B))) := by
  have hbt := bts_toBa _ (nbytes_lt ((a + 7) / 8) B)
  refine lcd_of (xs := []) (xr := .str (Nat.blt 0 a) (nbytes ((a + 7) / 8) B)) Try.func20 fits20.1 fits20.2 (by omega) (by simp) (fun ρ D => LR.nil _ _) (fun ρ D v hv => ?_) ?_
  · obtain ⟨b, rfl, e⟩ := hv.str_inv
    rw [← hbt] at e
    rw [bts_eq e]
  · intro ρ0 H0 w0 act w hs
    rcases Nat.eq_zero_or_pos a with rfl | hpos
    · refine wp_mono (exec_sl bT_ok bM bC_ok wf20.2.2.2.2.2 a20 ok1 (fun v h => by cases h) trivial rfl rfl kp1 hs) ?_
      rintro x a' w' ⟨hx, hs'⟩
      exact ⟨.inr hx.ret, _, True, [], _, hs', trivial, (by kernel_rfl : SX.results bT (z20 false []) ⟨hS KR 0 B, nxW 0, True, []⟩ Try.f20.results.toList = some [.str false []]), rfl⟩
    · rw [body20]
      have h0 : SL Try.prog 45 [1000] ρ0 H0 w0 (sX (some (rb a B, a)) (argsEnv [.ptr 1000 0] 0 .e) True []) act w := by
        rw [← xR_pos B hpos]
        exact hs.alike rfl (xR_nx a B) (xR_h a B)
      refine wp_seq (wp_mono (exec_sl bT_ok bM bC_ok wf20.1 (r20 (rb a B) a) ok2n (fun v h => by cases h) trivial rfl rfl kp2n h0) ?_)
      rintro x a1 w1 ⟨hx, h1⟩
      obtain rfl := hx.normal
      have ek : (kk a).toNat = (a + 7) / 8 := by rw [kk_nat a (by omega)]; exact Int.toNat_natCast _
      have e0 := i20 (rb a B) a
      have hrep : List.replicate (kk a).toNat (0 : Int) = bytes ((a + 7) / 8) 0 := by
        rw [ek]
        apply List.ext_getElem
        · rw [List.length_replicate, bytes_length]
        · intro i h1 h2
          rw [bytes_get]
          simp
      rw [hrep] at e0
      refine wp_seq (wp_mono (exec_sl bT_ok bM bC_ok wf20.2.1 e0 okm3 (fun v h => by cases h) ?_ rfl rfl kpm3 h1) ?_)
      · rw [ek, kk_nat a (by omega)]
        refine ⟨by rw [Bool.and_eq_true]; exact ⟨ble_t (by omega), ble_t (by omega)⟩, ?_, trivial⟩
        rw [Bool.and_eq_true]
        exact ⟨nilt_t (by omega), nilt_t (Int.le_refl _)⟩
      rintro x a2 w2 ⟨hx, h2⟩
      obtain rfl := hx.normal
      rw [ek] at h2
      refine wp_seq (wp_seq (wp_mono (exec_sl bT_ok bM bC_ok wf20.2.2.1 (j20 _ _ _ _) okm3 (fun v h => by cases h) trivial rfl rfl kpm3 (h2.alike rfl rfl rfl)) ?_))
      rintro x a3 w3 ⟨hx, h3⟩
      obtain rfl := hx.normal
      refine wp_mono (str_loop hB (by omega) (h3.sim rfl rfl (.same (.same (.int .nil))) rfl rfl)) ?_
      rintro x a4 w4 ⟨rfl, h4⟩
      refine wp_mono (exec_sl bT_ok bM bC_ok wf20.2.2.2.2.1 (z20' _ _ _ _ _) ok2n (fun v h => by cases h) ⟨ble_t (by rw [bytes_length]; omega), trivial⟩ rfl rfl kp2n h4) ?_
      rintro x a5 w5 ⟨hx, h5⟩
      have el : (List.take ((a + 7) / 8) (List.drop 0 (bytes ((a + 7) / 8) B))).map (fun v => Nat.mod v.toNat 256) = nbytes ((a + 7) / 8) B := by
        rw [List.drop_zero, List.take_of_length_le (by rw [bytes_length]; exact Nat.le_refl _), bytes_nat]
      rw [el] at h5
      rw [← xR_pos B hpos] at h5
      have hb : Nat.blt 0 a = true := blt_t hpos
      rw [hb]
      exact ⟨.inr hx.ret, _, True, [], _, h5.alike rfl (xR_nx a B).symm (xR_h a B).symm, trivial, (by kernel_rfl : SX.results bT (z20 true (nbytes ((a + 7) / 8) B)) ⟨hS KR a B, nxW a, True, []⟩ Try.f20.results.toList = some [.str true (nbytes ((a + 7) / 8) B)]), rfl⟩
open Go.Proofs Go.Proofs.Yticfagianocfiaa Go.RowKit
set_option maxRecDepth 1000000
/-! live, and all primitives of the writers -/
noncomputable def lG : G := ⟨.e, 1000, True, []⟩
def saysTrue : Option (CR × PM × G) → Bool
  | some (.ret (.bool _ b), _) => b
  | _ => false
def pcOf : Option (CR × PM × G) → Prop
  | some (_, _, g) => g.pc
  | none => False
theorem live_true : saysTrue (callN bT noP 1000 20 .no 8 [] lG) = true := by kernel_rfl
theorem live_pc : pcOf (callN bT noP 1000 20 .no 8 [] lG) = True := by kernel_rfl
def idR : Rn := ⟨id, fun _ => 0⟩
theorem live_calls (W : World) : Calls Try.prog 8 #[] W fun e W' => e = .returned (.bool true) ∧ W'.os = W.os ∧ W'.tape = W.tape ∧ W'.output = W.output ∧ W.heap.size ≤ W'.heap.size ∧ ∀ k, k < W.heap.size → W'.heap[k]? = W.heap[k]? := by
  have h := live_true
  have hpc := live_pc
  cases hr : callN bT noP 1000 20 .no 8 [] lG with
  | none => rw [hr] at h; cases h
  | some q =>
    obtain ⟨cr, pm', g'⟩ := q
    rw [hr] at h hpc
    obtain ⟨hfn, hok⟩ := (sx_ok bT_ok bM (none_ok (P := Try.prog)) 1000 20).ok _ _ _ _ _ _ _ hr
    have he : ∀ b, lG.h.get b = none := fun b => get_e b
    have hG : GR Try.prog idR (Dm N0 lG.nx) lG.h.get W := ⟨fun b o hb => by { rw [he] at hb; cases hb }, fun b o hb => by { rw [he] at hb; cases hb }, fun b b' o o' hb => by { rw [he] at hb; cases hb }⟩
    refine ((hok N0 idR [] W (by show pcOf (some (cr, pm', g')); rw [hpc]; trivial) (fun b hb => hb.elim) ⟨Nat.le_refl _, fun g _ => rfl⟩ (LR.nil _ _) hG).1 rfl).mono fun e W' ⟨ρ', hf, hend⟩ => ?_
    refine ⟨?_, hf.fr.os, hf.fr.tape, hf.fr.output, hf.fr.size, fun k hk => hf.fr.keep k hk fun b o hb _ => by rw [he] at hb; cases hb⟩
    cases cr with
    | pan v => cases h
    | ret v =>
      cases e with
      | returned x =>
        cases v <;> first | (cases h; done) | skip
        rename_i s t hh
        have hx : VR ρ' (Dm N0 g'.nx) (.bool s t) x := hend
        obtain rfl := hx.bool_inv
        have hb : t = true := h
        subst hb
        rfl
      | panicked c => exact hend.elim
      | outgrown => exact hend.elim
noncomputable def lP : CallT := fun pm f args g => match pm, args with
  | .no, [] => bif f.beq 8 then some (.ret (.bool false true), .no, g) else none
  | _, _ => none
theorem ok8 : FnOk Try.prog 8 := fnOk (c := bodyOf 8) Try.func8 (by kernel_rfl) (by kernel_rfl)
theorem lP_ok : CallOk Try.prog lP := by
  have inv : ∀ pm f args g q, lP pm f args g = some q → pm = .no ∧ args = [] ∧ f = 8 ∧ q = (.ret (.bool false true), .no, g) := by
    intro pm f args g q h
    unfold lP at h
    split at h
    · rcases bifNone h with ⟨e, h⟩ | ⟨_, h⟩
      · injection h with h
        exact ⟨rfl, rfl, beq_iff.1 e, h.symm⟩
      · cases h
    · cases h
  constructor
  · intro pm f args g cr pm' g' h
    obtain ⟨rfl, rfl, rfl, hq⟩ := inv _ _ _ _ _ h
    clear h
    obtain ⟨h1, hq2⟩ := Prod.mk.inj hq
    obtain ⟨h2, h3⟩ := Prod.mk.inj hq2
    subst h1 h2 h3
    exact .refl _
  · intro pm f args g cr pm' g' h
    obtain ⟨rfl, rfl, rfl, hq⟩ := inv _ _ _ _ _ h
    clear h
    obtain ⟨h1, hq2⟩ := Prod.mk.inj hq
    obtain ⟨h2, h3⟩ := Prod.mk.inj hq2
    subst h1 h2 h3
    refine ⟨ok8, fun E ρ vs w hpc hE hgl hL hw => ⟨fun _ => ?_, fun hno => by cases hno⟩⟩
    obtain rfl : vs = [] := List.length_eq_zero_iff.1 hL.1.symm
    refine (live_calls w).mono ?_
    rintro e w' ⟨rfl, h1, h2, h3, h4, h5⟩
    refine ⟨ρ, ⟨Nat.le_refl _, fun _ _ => ⟨rfl, rfl⟩, ⟨hw.dom, fun b o hb => ?_, hw.inj⟩, ⟨h1, h2, h3, h4, fun i hi _ => h5 i hi, fun b o hb hfx => .inr ⟨b, o, hb, hfx, rfl⟩⟩⟩, .bool _ _⟩
    obtain ⟨r, hr, ho⟩ := hw.at_ b o hb
    exact ⟨r, by rw [h5 _ (hw.lt hb)]; exact hr, ho⟩
/-- the one, or else the other -/
noncomputable def orP (p q : CallT) : CallT := fun pm f args g => Option.rec (motive := fun _ => Option (CR × PM × G)) (q pm f args g) (fun r => some r) (p pm f args g)
theorem orP_ok {P : Program} {p q : CallT} (hp : CallOk P p) (hq : CallOk P q) : CallOk P (orP p q) := by
  have inv : ∀ pm f args g r, orP p q pm f args g = some r → p pm f args g = some r ∨ q pm f args g = some r := by
    intro pm f args g r h
    unfold orP at h
    cases hr : p pm f args g with
    | none => rw [hr] at h; exact .inr h
    | some r2 => rw [hr] at h; exact .inl h
  constructor
  · intro pm f args g cr pm' g' h
    rcases inv _ _ _ _ _ h with h | h
    · exact hp.mo _ _ _ _ _ _ _ h
    · exact hq.mo _ _ _ _ _ _ _ h
  · intro pm f args g cr pm' g' h
    rcases inv _ _ _ _ _ h with h | h
    · exact hp.ok _ _ _ _ _ _ _ h
    · exact hq.ok _ _ _ _ _ _ _ h
/-- Add and String of the reference -/
noncomputable def pAdd (a B : Nat) (args : List AV) (g : G) : Option (CR × PM × G) := match args with
  | [.ptr b 0, .str _ s] => prAdd KR (Fine a B ∧ a < 2 ^ 41 ∧ s.length < 2 ^ 37 ∧ ∃ t : ByteArray, s = bts t) (s.length.beq 0) a B (up8 a + 8 * s.length) (B + numB s * 2 ^ up8 a) b (.tup []) g
  | _ => none
noncomputable def pStr (a B : Nat) (args : List AV) (g : G) : Option (CR × PM × G) := match args with
  | [.ptr b 0] => prDet KR (Fine a B) a B a B b (.str true (nbytes ((a + 7) / 8) B)) g
  | _ => none
noncomputable def cP (a B : Nat) : CallT := fun pm f args g => match pm with
  | .no => bif f.beq 15 then pAdd a B args g else bif f.beq 20 then pStr a B args g else none
  | _ => none
theorem ok15 : FnOk Try.prog 15 := fnOk Try.func15 fits15.1 (by kernel_rfl)
theorem ok20 : FnOk Try.prog 20 := fnOk Try.func20 fits20.1 (by kernel_rfl)
theorem pAdd_some {a B : Nat} {args : List AV} {g : G} {q : CR × PM × G} (h : pAdd a B args g = some q) :
    ∃ b ys, args = .ptr b 0 :: ys ∧ ((q.2.2.pc → ∃ vs, (∀ ρ D us, LR ρ D ys us → us = vs) ∧ PrOk Try.prog 15 b vs g q) ∧ Le g q.2.2 ∧ q.2.1 = .no) := by
  unfold pAdd at h
  split at h
  · rename_i b s t
    by_cases hs : ∃ z : ByteArray, t = bts z
    · obtain ⟨z, rfl⟩ := hs
      obtain ⟨h1, h2, h3⟩ := prAdd_ok (P := Try.prog) (f := 15) (vs := [.string z]) (x1 := .tuple #[]) (fun hc => by
        have hl := hc.2.2.1
        rw [bts_length] at hl
        have := radd_lc a B z hc.1.1 hc.2.1 hl
        rw [← bts_length z] at this
        exact this) (fun he ha => by rw [beq_iff.1 he, up8_zero ha]) tup0_vr h
      exact ⟨b, _, rfl, fun hpc => ⟨_, str1, h1 hpc⟩, h2, h3⟩
    · obtain ⟨h1, h2, h3⟩ := prAdd_ok (P := Try.prog) (f := 15) (vs := []) (x1 := .tuple #[]) (fun hc => absurd hc.2.2.2 hs) (fun he ha => by rw [beq_iff.1 he, up8_zero ha]) tup0_vr h
      refine ⟨b, _, rfl, fun hpc => ?_, h2, h3⟩
      exfalso
      unfold prAdd at h
      obtain ⟨z, g1, hp1, hc1, hA⟩ := testS_some h
      have hl : Le g1 q.2.2 := by
        rcases onLast_some hA with hB | ⟨b2, hB⟩
        · cases z with
          | true => exact (prMo.1 hB).1
          | false => exact (prMo.2.1 _ _ hB).1
        · exact (prMo.2.2 _ _ _ _ hB).1
      exact hs (hp1.pc (hl.pc hpc)).1.2.2.2
  · cases h
theorem pStr_some {a B : Nat} {args : List AV} {g : G} {q : CR × PM × G} (h : pStr a B args g = some q) :
    ∃ b ys, args = .ptr b 0 :: ys ∧ ((q.2.2.pc → ∃ vs, (∀ ρ D us, LR ρ D ys us → us = vs) ∧ PrOk Try.prog 20 b vs g q) ∧ Le g q.2.2 ∧ q.2.1 = .no) := by
  unfold pStr at h
  split at h
  · rename_i b
    obtain ⟨h1, h2, h3⟩ := prDet_ok (P := Try.prog) (f := 20) (vs := []) (x1 := .string (toBa (nbytes ((a + 7) / 8) B))) (fun hc => rstr_lc a B hc.1 (Nat.lt_trans hc.2 (by omega))) id (fun ρ D => by
      have e := bts_toBa _ (nbytes_lt ((a + 7) / 8) B)
      have := VR.str (ρ := ρ) (D := D) true (toBa (nbytes ((a + 7) / 8) B))
      rw [e] at this
      exact this) h
    exact ⟨b, _, rfl, fun hpc => ⟨_, nil0, h1 hpc⟩, h2, h3⟩
  · cases h
theorem cP_ok (a B : Nat) : CallOk Try.prog (cP a B) := by
  refine callOk_of fun pm f args g q h => ?_
  unfold cP at h
  split at h
  · refine ⟨rfl, ?_⟩
    rcases bifNone h with ⟨e, h⟩ | ⟨_, h⟩
    · obtain rfl := beq_iff.1 e
      exact ⟨ok15, pAdd_some h⟩
    · rcases bifNone h with ⟨e, h⟩ | ⟨_, h⟩
      · obtain rfl := beq_iff.1 e
        exact ⟨ok20, pStr_some h⟩
      · cases h
  · cases h
noncomputable def wP (a B : Nat) : CallT := orP lP (orP (bP a B) (cP a B))
noncomputable def wC (a B : Nat) : CallT := callN bT (wP a B) 1000 20
theorem wC_ok (a B : Nat) : CallOk Try.prog (wC a B) := sx_ok bT_ok bM (orP_ok lP_ok (orP_ok (bP_ok a B) (cP_ok a B))) 1000 20
end Go.Proofs.Yticfagianocfiaa.SX
