import Derived.Test.YtkclgbccnbiojaaGreatDoorTopA
import Derived.Test.YtkclgbccnbiojaaGreatDoorSx7
import Derived.Test.YtkclgbccnbiojaaGreatDoorTContains
set_option linter.unusedVariables false
set_option linter.unusedSimpArgs false
namespace Go.Proofs.YtkclgbccnbiojaaGreatDoor.SX
open Go.Proofs Go.Proofs.YtkclgbccnbiojaaGreatDoor.Mor
set_option maxRecDepth 1000000
/-! ### strings.Contains -/
theorem isPre_eq : ∀ (a b : List UInt8), isPre (a.map (·.toNat)) (b.map (·.toNat)) = a.isPrefixOf b := by
  intro a
  induction a with
  | nil => intro b; rfl
  | cons x r ih =>
    intro b
    show isPreC x.toNat (isPre (r.map (·.toNat))) (b.map (·.toNat)) = _
    cases b with
    | nil => rfl
    | cons y s =>
      show (bif x.toNat.beq y.toNat then isPre (r.map (·.toNat)) (s.map (·.toNat)) else false) = _
      rw [ih s, List.isPrefixOf_cons_cons]
      by_cases h : x = y
      · subst h
        rw [Nat.beq_refl]; simp
      · rw [beq_f (fun e => h (UInt8.toNat_inj.1 e))]
        simp [h]
theorem index_cons (b : UInt8) (l sub : List UInt8) : Lib.index (b :: l) sub = if sub.isPrefixOf (b :: l) then 0 else if Lib.index l sub == -1 then -1 else Lib.index l sub + 1 := by rw [Lib.index]
theorem hasSub_eq (s sub : List UInt8) : hasSub (sub.map (·.toNat)) (s.map (·.toNat)) = Lib.contains s sub := by
  unfold Lib.contains
  induction s with
  | nil =>
    have := isPre_eq sub []
    rw [show ([] : List UInt8).map (·.toNat) = [] from rfl] at this
    show isPre (sub.map (·.toNat)) [] = _
    rw [this]
    cases sub <;> rfl
  | cons b l ih =>
    show (isPre (sub.map (·.toNat)) ((b :: l).map (·.toNat)) || hasSub (sub.map (·.toNat)) (l.map (·.toNat))) = _
    rw [isPre_eq, ih, index_cons]
    cases h : sub.isPrefixOf (b :: l) with
    | true => rw [if_pos rfl]; simp
    | false =>
      rw [if_neg (by simp)]
      have := Lib.index_ge l sub
      by_cases h2 : Lib.index l sub = -1
      · rw [h2]; simp
      · have h3 : 0 ≤ Lib.index l sub := by omega
        have h4 : (0 : Int) ≤ Lib.index l sub + 1 := by omega
        rw [if_neg (by simpa using h2)]
        simp [h3, h4]
theorem cell_of {w : World} {b o : Nat} {arr : Array Value} {e : Nat} {fz : Nat × Nat} {x : Value} (h : w.heap[b]? = some (.cells arr e fz)) (hx : arr[o]? = some x) : w.cell? ⟨b, o, none⟩ = some x := by
  unfold World.cell?
  rw [h]
  exact hx
/-- what a row of one's own reads as -/
theorem glob_cell {P : Program} {ρ : Rn} {D : Nat → Prop} {H : Nat → Option AObj} {n : Nat} {w : World} (hgl : Gl ρ n) (hw : GR P ρ D H w) {b e sz k : Nat} {f : Nat → List AV} (hb : b < 1000) (h : H b = some (.rows e sz k f)) {i j : Nat} (hi : i < k) {v : AV} (hv : (f i)[j]? = some v) : ∃ x, w.cell? ⟨b, i * sz + j, none⟩ = some x ∧ VR ρ D v x := by
  obtain ⟨r, hr, ho⟩ := hw.at_ b _ h
  rw [hgl.at_ b hb] at hr
  cases ho with
  | rows e e2 sz n f arr fz hl hh =>
    obtain ⟨x, hx, hvx⟩ := hh i j v hi hv
    rw [hgl.c0 b hb, Nat.zero_add] at hx
    exact ⟨x, cell_of hr hx, hvx⟩
noncomputable def maxR (e sz n : Nat) (l : List AV) : Option Int := match l with
  | [.int _ .i64 m] => bif e.beq 3 && (sz.beq 1 && n.beq 1) then some m else none
  | _ => none
noncomputable def maxOf (h : Mem) : Option Int := match h.get 6 with
  | some (.rows e sz n f) => maxR e sz n (f 0)
  | _ => none
theorem maxOf_some {h : Mem} {m : Int} (hm : maxOf h = some m) : ∃ f s, h.get 6 = some (.rows 3 1 1 f) ∧ f 0 = [.int s .i64 m] := by
  unfold maxOf at hm
  split at hm
  · rename_i e sz n f hg
    unfold maxR at hm
    split at hm
    · rename_i s m' hf
      cases hc : (e.beq 3 && (sz.beq 1 && n.beq 1)) with
      | false => rw [hc] at hm; cases hm
      | true =>
        rw [hc] at hm
        injection hm with hm
        simp only [Bool.and_eq_true, beq_iff] at hc
        obtain ⟨rfl, rfl, rfl⟩ := hc
        subst hm
        exact ⟨f, s, hg, hf⟩
    · cases hm
  · cases hm
noncomputable def conR (s b : List Nat) (g : G) (m : Option Int) : Option (AV × G) := match m with
  | some _ => bif s.length.blt 4294967281 then some (.bool false (hasSub b s), g) else none
  | none => none
noncomputable def conP (args : List AV) (g : G) : Option (AV × G) := match args with
  | [.str false s, .str false b] => conR s b g (maxOf g.h)
  | _ => none
noncomputable def pCon : Pr := prAt 187 conP
theorem fnOk_of {f : Nat} {fn : Func} {c : Code} (h : Tryz.prog.funcs[f]? = some fn) (hb : fn.body = some c) (hn : (fn.name == "runtime.NumGoroutine") = false) : FnOk Tryz.prog f := ⟨fn, c, h, hb, hn⟩
theorem body_of {f : Nat} {fn : Func} (h : Tryz.prog.funcs[f]? = some fn) (hb : fn.body.isSome = true) : fn.body = some (bodyOf f) := by
  unfold bodyOf
  rw [h]
  simp only
  cases hc : fn.body with
  | none => rw [hc] at hb; cases hb
  | some c => rfl
theorem two_args {ρ : Rn} {D : Nat → Prop} {a b : AV} {vs : List Value} (h : LR ρ D [a, b] vs) : ∃ x y, vs = [x, y] ∧ VR ρ D a x ∧ VR ρ D b y := by
  match vs, h with
  | [x, y], h => exact ⟨x, y, rfl, h.2 0 a x rfl rfl, h.2 1 b y rfl rfl⟩
  | [], h => exact absurd h.1 (by simp)
  | [x], h => exact absurd h.1 (by simp)
  | x :: y :: z :: r, h => exact absurd h.1 (by simp)
theorem one_arg {ρ : Rn} {D : Nat → Prop} {a : AV} {vs : List Value} (h : LR ρ D [a] vs) : ∃ x, vs = [x] ∧ VR ρ D a x := by
  match vs, h with
  | [x], h => exact ⟨x, rfl, h.2 0 a x rfl rfl⟩
  | [], h => exact absurd h.1 (by simp)
  | x :: y :: r, h => exact absurd h.1 (by simp)
theorem pCon_ok : PrOk Tryz.prog pCon := by
  have inv : ∀ args g v g', conP args g = some (v, g') → ∃ s b m, args = [.str false s, .str false b] ∧ maxOf g.h = some m ∧ s.length < 4294967281 ∧ v = .bool false (hasSub b s) ∧ g' = g := by
    intro args g v g' h
    unfold conP at h
    split at h
    · rename_i s b
      unfold conR at h
      split at h
      · rename_i m hm
        cases hl : s.length.blt 4294967281 with
        | false => rw [hl] at h; cases h
        | true =>
          rw [hl] at h
          injection h with h
          obtain ⟨rfl, rfl⟩ := Prod.mk.inj h
          exact ⟨s, b, m, rfl, hm, blt_iff.1 hl, rfl, rfl⟩
      · cases h
    · cases h
  refine PrOk.at_ (fnOk_of Tryz.func187 (body_of Tryz.func187 (by kernel_rfl)) (by kernel_rfl)) (fun args g v g' h => ?_) (fun args g v g' h E ρ vs w p hE hg hL hw => ?_)
  · obtain ⟨s, b, m, rfl, _, _, _, rfl⟩ := inv _ _ _ _ h
    exact .refl _
  · obtain ⟨s, b, m, rfl, hm, hl, rfl, rfl⟩ := inv _ _ _ _ h
    obtain ⟨x, y, rfl, hx, hy⟩ := two_args hL
    obtain ⟨S, rfl, rfl⟩ := hx.str_inv
    obtain ⟨B, rfl, rfl⟩ := hy.str_inv
    obtain ⟨f, st, h6, hf⟩ := maxOf_some hm
    obtain ⟨z, hz, hvz⟩ := glob_cell hg hw (by omega) h6 (i := 0) (j := 0) (v := .int st .i64 m) (by omega) (by rw [hf]; rfl)
    obtain rfl := hvz.int_inv
    refine (Tryz.strings_Contains S B m w (by unfold bts at hl; simpa using hl) hz).mono fun e w' ⟨he, hw'⟩ => ?_
    subst he hw'
    refine ⟨ρ, Eff.refl hw, ?_⟩
    show VR _ _ (.bool false (hasSub (bts B) (bts S))) _
    have := hasSub_eq S.data.toList B.data.toList
    unfold bts
    rw [this]
    exact .bool _ _
/-! ### the sums -/
noncomputable def inU32 (c : Int) : Bool := !(ilt c 0) && ilt c 4294967296
noncomputable def moreP (args : List AV) (g : G) : Option (AV × G) := match args with
  | [.int s .u32 c, .str s' b] => (match eqRows (g.h.get 0) (some gHalf) with
    | true => chk s (inU32 c) g fun g => chk s' (b.length.ble 1000000) g fun g => some (.int (s || s') .u32 ((crcMore c.toNat b : Nat) : Int), g)
    | false => none)
  | _ => none
noncomputable def adlP (args : List AV) (g : G) : Option (AV × G) := match args with
  | [.int s .u32 c, .str s' b] => chk s (inU32 c) g fun g => chk s' (b.length.ble 5000) g fun g => some (.int (s || s') .u32 ((adlerMore c.toNat b : Nat) : Int), g)
  | _ => none
noncomputable def pMore : Pr := prAt 18 moreP
noncomputable def pAdl : Pr := prAt 20 adlP
theorem inU32_iff {c : Int} (h : inU32 c = true) : ∃ n : Nat, c = (n : Int) ∧ n < 4294967296 := by
  unfold inU32 at h
  rw [Bool.and_eq_true, ilt_eq, ilt_eq] at h
  simp at h
  obtain ⟨n, rfl⟩ := Int.eq_ofNat_of_zero_le h.1
  exact ⟨n, rfl, by omega⟩
theorem byts_bts (s : ByteArray) : byts s = bts s := rfl
theorem chk2 {s s' c c' : Bool} {g : G} {v : AV} {q : AV × G} (h : (chk s c g fun g => chk s' c' g fun g => some (v, g)) = some q) : q.1 = v ∧ Pc g q.2 ∧ (q.2.pc → c = true ∧ c' = true) := by
  obtain ⟨g1, hp1, hc1, h1⟩ := chk_some h
  obtain ⟨g2, hp2, hc2, h2⟩ := chk_some h1
  injection h2 with h2
  subst h2
  exact ⟨rfl, hp1.trans hp2, fun p => ⟨hc1 (hp2.pc p), hc2 p⟩⟩
theorem Eff.drewn {P : Program} {E : Nat → Prop} {ρ ρ1 ρ2 : Rn} {g g' : G} {w w' : World} {H : Nat → Option AObj} (hw : GR P ρ (Dm E g.nx) g.h.get w) (hp : Pc g g') (hf : Fram ρ1 H w ρ2 H w') (hn : ∀ b, H b = none) : Eff P E ρ g w ρ g' w' := by
  have keep : ∀ i, i < w.heap.size → w'.heap[i]? = w.heap[i]? := fun i hi => hf.keep i hi fun b o hb _ => by rw [hn] at hb; cases hb
  have h1 : Eff P E ρ g w ρ g w' := by
    refine ⟨Nat.le_refl _, fun _ _ => ⟨rfl, rfl⟩, ⟨hw.dom, fun b o hb => ?_, hw.inj⟩, ⟨hf.os, hf.tape, hf.output, hf.size, fun i hi _ => keep i hi, fun b o hb hfx => .inr ⟨b, o, hb, hfx, rfl⟩, fun b o hb hfx => ⟨b, o, hb, hfx, rfl⟩⟩⟩
    obtain ⟨r, hr, ho⟩ := hw.at_ b o hb
    exact ⟨r, by rw [keep _ (hw.lt hb)]; exact hr, ho⟩
  exact h1.pcR hp
theorem half_of {ρ : Rn} {D : Nat → Prop} {n : Nat} {h : Mem} {w : World} (hgl : Gl ρ n) (hw : GR Tryz.prog ρ D h.get w) (he : eqRows (h.get 0) (some gHalf) = true) : HalfIs w := by
  obtain ⟨x, x', h1, h2, _, _, h3⟩ := eqRows_some (P := Tryz.prog) he
  obtain ⟨r, hr, ho⟩ := hw.at_ 0 x h1
  have ho' := h3 _ _ _ _ ho
  injection h2 with h2
  subst h2
  rw [hgl.at_ 0 (by omega)] at hr
  refine ⟨fun i hi => ?_⟩
  unfold gHalf at ho'
  cases ho' with
  | rows e e2 sz n f arr fz hl hh =>
    have hi' : i < halfL.length := hi
    obtain ⟨y, hy, hvy⟩ := hh 0 i (.int false .u32 ((halfL[i] : Nat) : Int)) (by omega) (by rw [List.getElem?_map, List.getElem?_eq_getElem hi']; rfl)
    rw [hgl.c0 0 (by omega)] at hy
    simp only [Nat.zero_mul, Nat.zero_add] at hy
    obtain rfl := hvy.int_inv
    rw [cell_of hr hy]
    have : halfL = half := by decide
    congr 3
    rw [List.getD_eq_getElem?_getD]
    simp only [← this]
    rw [List.getElem?_eq_getElem hi']; rfl
theorem pMore_ok : PrOk Tryz.prog pMore := by
  have inv : ∀ args g v g', moreP args g = some (v, g') → ∃ s s' c b, args = [.int s .u32 c, .str s' b] ∧ eqRows (g.h.get 0) (some gHalf) = true ∧ v = .int (s || s') .u32 ((crcMore c.toNat b : Nat) : Int) ∧ Pc g g' ∧ (g'.pc → inU32 c = true ∧ b.length.ble 1000000 = true) := by
    intro args g v g' h
    unfold moreP at h
    split at h
    · rename_i s c s' b
      split at h
      · rename_i he
        obtain ⟨h1, h2, h3⟩ := chk2 h
        exact ⟨s, s', c, b, rfl, he, h1, h2, h3⟩
      · cases h
    · cases h
  refine PrOk.at_ (fnOk_of Tryz.func18 (body_of Tryz.func18 (by kernel_rfl)) (by kernel_rfl)) (fun args g v g' h => ?_) (fun args g v g' h E ρ vs w p hE hg hL hw => ?_)
  · obtain ⟨s, s', c, b, rfl, _, _, h2, _⟩ := inv _ _ _ _ h
    exact ⟨h2.pc, by rw [h2.nx]; exact Nat.le_refl _⟩
  · obtain ⟨s, s', c, b, rfl, h1, rfl, h2, h3⟩ := inv _ _ _ _ h
    obtain ⟨h4, h5⟩ := h3 p
    obtain ⟨x, y, rfl, hx, hy⟩ := two_args hL
    obtain rfl := hx.int_inv
    obtain ⟨B, rfl, rfl⟩ := hy.str_inv
    obtain ⟨n, rfl, hn⟩ := inU32_iff h4
    have hl : B.size ≤ 1000000 := by have := ble_iff.1 h5; unfold bts at this; simpa using this
    refine (more_any n B w hn (by unfold maxLen; omega) (half_of hg hw h1)).mono fun e w' ⟨he, hw'⟩ => ?_
    subst he hw'
    refine ⟨ρ, (Eff.refl hw).pcR h2, ?_⟩
    show VR _ _ (.int (s || s') .u32 ((crcMore (n : Int).toNat (bts B) : Nat) : Int)) _
    exact .int _ _ _
theorem pAdl_ok : PrOk Tryz.prog pAdl := by
  have inv : ∀ args g v g', adlP args g = some (v, g') → ∃ s s' c b, args = [.int s .u32 c, .str s' b] ∧ v = .int (s || s') .u32 ((adlerMore c.toNat b : Nat) : Int) ∧ Pc g g' ∧ (g'.pc → inU32 c = true ∧ b.length.ble 5000 = true) := by
    intro args g v g' h
    unfold adlP at h
    split at h
    · rename_i s c s' b
      obtain ⟨h1, h2, h3⟩ := chk2 h
      exact ⟨s, s', c, b, rfl, h1, h2, h3⟩
    · cases h
  refine PrOk.at_ (fnOk_of Tryz.func20 (body_of Tryz.func20 (by kernel_rfl)) (by kernel_rfl)) (fun args g v g' h => ?_) (fun args g v g' h E ρ vs w p hE hg hL hw => ?_)
  · obtain ⟨s, s', c, b, rfl, _, h2, _⟩ := inv _ _ _ _ h
    exact ⟨h2.pc, by rw [h2.nx]; exact Nat.le_refl _⟩
  · obtain ⟨s, s', c, b, rfl, rfl, h2, h3⟩ := inv _ _ _ _ h
    obtain ⟨h4, h5⟩ := h3 p
    obtain ⟨x, y, rfl, hx, hy⟩ := two_args hL
    obtain rfl := hx.int_inv
    obtain ⟨B, rfl, rfl⟩ := hy.str_inv
    obtain ⟨n, rfl, hn⟩ := inU32_iff h4
    have hl : B.size ≤ 5000 := by have := ble_iff.1 h5; unfold bts at this; simpa using this
    refine (adler_calls n B w hn hl).mono fun e w' ⟨he, ρ', hf⟩ => ?_
    subst he
    refine ⟨ρ, Eff.drewn hw h2 hf (fun b => mget_e b), ?_⟩
    show VR _ _ (.int (s || s') .u32 ((adlerMore (n : Int).toNat (bts B) : Nat) : Int)) _
    exact .int _ _ _
/-! ### the program's own variables -/
noncomputable def glL : List (Nat × AObj) := [(0, gHalf), (1, gInts), (2, gAutos), (3, gLevels), (1000, gLev0), (1001, gLev1), (1002, gLev2), (1003, gLev3), (1004, gLev4), (1005, gLev5)]
noncomputable def glAll (h : Mem) (l : List (Nat × AObj)) : Bool := List.rec (motive := fun _ => Bool) true (fun p _ ih => eqRows (h.get p.1) (some p.2) && ih) l
theorem glAll_mem {h : Mem} : ∀ l : List (Nat × AObj), glAll h l = true → ∀ p ∈ l, eqRows (h.get p.1) (some p.2) = true := by
  intro l
  induction l with
  | nil => intro _ p hp; cases hp
  | cons q r ih =>
    intro hh p hp
    have h1 : (eqRows (h.get q.1) (some q.2) && glAll h r) = true := hh
    rw [Bool.and_eq_true] at h1
    rcases List.mem_cons.1 hp with rfl | hp
    · exact h1.1
    · exact ih h1.2 p hp
theorem gMem_mem (m : Int) (b : Nat) (o : AObj) (h : (gMem m).get b = some o) : (b, o) ∈ glL ∨ (b = 6 ∧ o = gMax m) := by
  have := mkH_mem (glObs m) (by kernel_rfl) b o h
  unfold glL; unfold glObs at this
  simp only [List.mem_cons, Prod.mk.injEq, Option.some.injEq, List.not_mem_nil, or_false] at this ⊢
  rcases this with ⟨rfl, rfl⟩ | ⟨rfl, rfl⟩ | ⟨rfl, rfl⟩ | ⟨rfl, rfl⟩ | ⟨rfl, rfl⟩ | ⟨rfl, rfl⟩ | ⟨rfl, rfl⟩ | ⟨rfl, rfl⟩ | ⟨rfl, rfl⟩ | ⟨rfl, rfl⟩ | ⟨rfl, rfl⟩ <;> simp
theorem glL_near : glL.all (fun p => p.1.blt 1100 && nearO 1100 p.2) = true := by kernel_rfl
theorem gMem_pre (m : Int) (b : Nat) (o : AObj) (h : (gMem m).get b = some o) : b < (gG m).nx ∧ nearO (gG m).nx o = true := by
  rcases gMem_mem m b o h with h | ⟨rfl, rfl⟩
  · have := List.all_eq_true.1 glL_near _ h
    rw [Bool.and_eq_true, blt_iff] at this
    exact this
  · exact ⟨by show 6 < 1100; omega, rfl⟩
theorem gMem_in {h : Mem} {m : Int} (h1 : glAll h glL = true) (h2 : maxOf h = some m) (b : Nat) (o : AObj) (hb : (gMem m).get b = some o) : ∃ o', h.get b = some o' ∧ o'.fixed = true ∧ ∀ (ρ : Rn) (D : Nat → Prop) (r : Obj), OR Tryz.prog ρ D b o' r → OR Tryz.prog ρ D b o r := by
  rcases gMem_mem m b o hb with hb | ⟨rfl, rfl⟩
  · obtain ⟨x, x', e1, e2, e3, _, e4⟩ := eqRows_some (P := Tryz.prog) (glAll_mem _ h1 _ hb)
    injection e2 with e2
    subst e2
    exact ⟨x, e1, e3, fun ρ D r ho => e4 ρ D _ r ho⟩
  · obtain ⟨f, s, e1, e2⟩ := maxOf_some h2
    refine ⟨_, e1, rfl, fun ρ D r ho => ?_⟩
    cases ho with
    | rows e e2' sz n f arr fz hl hh =>
      refine .rows _ e2' _ _ _ arr fz (fun i _ => rfl) (fun i j x hi hx => ?_)
      obtain rfl : i = 0 := by omega
      cases j with
      | zero =>
        injection hx with hx
        subst hx
        obtain ⟨a, ha, hv⟩ := hh 0 0 (.int s .i64 m) (by omega) (by rw [e2]; rfl)
        obtain rfl := hv.int_inv
        exact ⟨_, ha, .int _ _ _⟩
      | succ j => simp at hx
/-- a run out of the program's own variables, of texts and numbers that are known, is known beforehand -/
noncomputable def runP (args : List AV) (sel : List Nat) (v : AV) (os : List (Option AObj)) (ws : List AV) (g : G) : Option (AV × G) :=
  bif eqL ws args && glAll g.h glL then (match maxOf g.h with | some _ => bif (1100).ble g.nx then some (grown sel 1100 v os g) else none | none => none) else none
theorem eqL_str {ws args : List AV} (h : eqL ws args = true) : ws = args := eqL_eq _ _ h
theorem runP_ok {call : CallT} (hc : CallOk Tryz.prog call) {k : FuncId} (hk : FnOk Tryz.prog k) {args : List AV} {sel : List Nat} {v : AV} {os : List (Option AObj)} (hrun : ∀ m, grab sel (call .no k args (gG m)) = some (v, os, [])) (hsel : selOk sel 1100 = true) (hos : os.all isCells = true)
    (hargs : args.all (nearV 0) = true) : PrOk Tryz.prog (prAt k (runP args sel v os)) := by
  have inv : ∀ ws g v' g', runP args sel v os ws g = some (v', g') → ws = args ∧ glAll g.h glL = true ∧ (∃ m, maxOf g.h = some m) ∧ 1100 ≤ g.nx ∧ (v', g') = grown sel 1100 v os g := by
    intro ws g v' g' h
    unfold runP at h
    cases hb : eqL ws args && glAll g.h glL with
    | false => rw [hb] at h; cases h
    | true =>
      rw [hb] at h
      rw [Bool.and_eq_true] at hb
      have h' : (match maxOf g.h with | some _ => bif (1100).ble g.nx then some (grown sel 1100 v os g) else none | none => none) = some (v', g') := h
      split at h'
      · rename_i m hm
        cases hn : (1100).ble g.nx with
        | false => rw [hn] at h'; cases h'
        | true =>
          rw [hn] at h'
          injection h' with h'
          exact ⟨eqL_str hb.1, hb.2, ⟨m, hm⟩, ble_iff.1 hn, h'.symm⟩
      · cases h'
  refine PrOk.at_ hk (fun ws g v' g' h => ?_) (fun ws g v' g' h E ρ vs w p hE hg hL hw => ?_)
  · obtain ⟨_, _, _, _, he⟩ := inv _ _ _ _ h
    obtain ⟨_, rfl⟩ := Prod.mk.inj he
    exact ⟨id, Nat.le_add_right _ _⟩
  · obtain ⟨rfl, h1, ⟨m, h2⟩, h3, he⟩ := inv _ _ _ _ h
    obtain ⟨rfl, rfl⟩ := Prod.mk.inj he
    refine graft_run hc (hrun m) (by show 1000 ≤ 1100; omega) hsel hos (gMem_pre m) h3 (gMem_in h1 h2) hE hg ⟨hL.1, fun i x a hx ha => ?_⟩ hw
    exact nearV_ok (List.all_eq_true.1 hargs x (List.mem_of_getElem? hx)) (fun q hq => absurd hq (Nat.not_lt_zero _)) (hL.2 i x a hx ha)
end Go.Proofs.YtkclgbccnbiojaaGreatDoor.SX

namespace Go.Proofs.YtkclgbccnbiojaaGreatDoor.SX
open Go.Proofs Go.Proofs.YtkclgbccnbiojaaGreatDoor
set_option maxRecDepth 1000000
def tab8 : List Nat := [0, 1, 2, 2, 3, 3, 3, 3, 4, 4, 4, 4, 4, 4, 4, 4, 5, 5, 5, 5, 5, 5, 5, 5, 5, 5, 5, 5, 5, 5, 5, 5, 6, 6, 6, 6, 6, 6, 6, 6, 6, 6, 6, 6, 6, 6, 6, 6, 6, 6, 6, 6, 6, 6, 6, 6, 6, 6, 6, 6, 6, 6, 6, 6, 7, 7, 7, 7, 7, 7, 7, 7, 7, 7, 7, 7, 7, 7, 7, 7, 7, 7, 7, 7, 7, 7, 7, 7, 7, 7, 7, 7, 7, 7, 7, 7, 7, 7, 7, 7, 7, 7, 7, 7, 7, 7, 7, 7, 7, 7, 7, 7, 7, 7, 7, 7, 7, 7, 7, 7, 7, 7, 7, 7, 7, 7, 7, 7, 8, 8, 8, 8, 8, 8, 8, 8, 8, 8, 8, 8, 8, 8, 8, 8, 8, 8, 8, 8, 8, 8, 8, 8, 8, 8, 8, 8, 8, 8, 8, 8, 8, 8, 8, 8, 8, 8, 8, 8, 8, 8, 8, 8, 8, 8, 8, 8, 8, 8, 8, 8, 8, 8, 8, 8, 8, 8, 8, 8, 8, 8, 8, 8, 8, 8, 8, 8, 8, 8, 8, 8, 8, 8, 8, 8, 8, 8, 8, 8, 8, 8, 8, 8, 8, 8, 8, 8, 8, 8, 8, 8, 8, 8, 8, 8, 8, 8, 8, 8, 8, 8, 8, 8, 8, 8, 8, 8, 8, 8, 8, 8, 8, 8, 8, 8, 8, 8, 8, 8, 8, 8, 8, 8, 8, 8, 8, 8]
noncomputable def sh (x : Int) (k : Int) : Int := x.fdiv (pow2 k IntKind.u64.bits)
noncomputable def lenR (base z : Int) : AV := .int true .i64 (wr .i64 (Int.add base (wr .i64 (byteAt tab8 (wr .u8 z)))))
noncomputable def lenPc (z : Int) (p : Cs) : Cs := (inB (wr .u8 z) 256, true) :: p
noncomputable def lenG (pc : Cs) : G := ⟨Mem.e, 1000, pc, []⟩
noncomputable def lenC (x : Int) (ch : List Bool) : Option (CR × PM × G) := callN tT noP 1000 20 .no 107 [.int true .u64 x] ⟨Mem.e, 1000, [], ch⟩
theorem len_fff (x : Int) : lenC x [false, false, false] = some (.ret (lenR 0 x), .no, lenG (lenPc x [((!ilt x 256), false), ((!ilt x 65536), false), ((!ilt x 4294967296), false)])) := by kernel_rfl
theorem len_fft (x : Int) : lenC x [false, false, true] = some (.ret (lenR (wr .i64 (Int.add 0 8)) (sh x 8)), .no, lenG (lenPc (sh x 8) [((!ilt x 256), true), ((!ilt x 65536), false), ((!ilt x 4294967296), false)])) := by kernel_rfl
theorem len_ftf (x : Int) : lenC x [false, true, false] = some (.ret (lenR (wr .i64 (Int.add 0 16)) (sh x 16)), .no, lenG (lenPc (sh x 16) [((!ilt (sh x 16) 256), false), ((!ilt x 65536), true), ((!ilt x 4294967296), false)])) := by kernel_rfl
theorem len_ftt (x : Int) : lenC x [false, true, true] = some (.ret (lenR (wr .i64 (Int.add (wr .i64 (Int.add 0 16)) 8)) (sh (sh x 16) 8)), .no, lenG (lenPc (sh (sh x 16) 8) [((!ilt (sh x 16) 256), true), ((!ilt x 65536), true), ((!ilt x 4294967296), false)])) := by kernel_rfl
theorem len_tff (x : Int) : lenC x [true, false, false] = some (.ret (lenR 32 (sh x 32)), .no, lenG (lenPc (sh x 32) [((!ilt (sh x 32) 256), false), ((!ilt (sh x 32) 65536), false), ((!ilt x 4294967296), true)])) := by kernel_rfl
theorem len_tft (x : Int) : lenC x [true, false, true] = some (.ret (lenR (wr .i64 (Int.add 32 8)) (sh (sh x 32) 8)), .no, lenG (lenPc (sh (sh x 32) 8) [((!ilt (sh x 32) 256), true), ((!ilt (sh x 32) 65536), false), ((!ilt x 4294967296), true)])) := by kernel_rfl
theorem len_ttf (x : Int) : lenC x [true, true, false] = some (.ret (lenR (wr .i64 (Int.add 32 16)) (sh (sh x 32) 16)), .no, lenG (lenPc (sh (sh x 32) 16) [((!ilt (sh (sh x 32) 16) 256), false), ((!ilt (sh x 32) 65536), true), ((!ilt x 4294967296), true)])) := by kernel_rfl
theorem len_ttt (x : Int) : lenC x [true, true, true] = some (.ret (lenR (wr .i64 (Int.add (wr .i64 (Int.add 32 16)) 8)) (sh (sh (sh x 32) 16) 8)), .no, lenG (lenPc (sh (sh (sh x 32) 16) 8) [((!ilt (sh (sh x 32) 16) 256), true), ((!ilt (sh x 32) 65536), true), ((!ilt x 4294967296), true)])) := by kernel_rfl

def lenB (n : Nat) : Nat := match n with | 0 => 0 | k + 1 => Nat.log2 (k + 1) + 1
theorem tab8_ok : ∀ i : Fin 256, tab8[i.val]? = some (lenB i.val) := by decide +kernel
theorem lenB_div (n k : Nat) (h : 2 ^ k ≤ n) : lenB n = lenB (n / 2 ^ k) + k := by
  have hp : 0 < 2 ^ k := Nat.two_pow_pos k
  have h1 : 1 ≤ n / 2 ^ k := (Nat.one_le_div_iff hp).2 h
  have hl : ∀ m, 1 ≤ m → lenB m = Nat.log2 m + 1 := fun m hm => by cases m with | zero => omega | succ m => rfl
  have hn : 1 ≤ n := Nat.le_trans hp h
  rw [hl _ h1, hl _ hn]
  have e1 : Nat.log2 (n / 2 ^ k) = Nat.log2 n - k := by
    clear hl h1
    induction k generalizing n with
    | zero => simp
    | succ k ih =>
      have h2 : 2 ≤ n := by
        have : 2 ^ (k + 1) = 2 * 2 ^ k := by rw [Nat.pow_succ, Nat.mul_comm]
        have := Nat.two_pow_pos k
        omega
      have e : n / 2 ^ (k + 1) = (n / 2) / 2 ^ k := by rw [Nat.div_div_eq_div_mul, Nat.pow_succ, Nat.mul_comm]
      have hk : 2 ^ k ≤ n / 2 := by
        have : 2 ^ (k + 1) = 2 * 2 ^ k := by rw [Nat.pow_succ, Nat.mul_comm]
        omega
      rw [e, ih (n / 2) hk (Nat.two_pow_pos k) (by omega)]
      rw [Nat.log2_def n, if_pos h2]
      omega
  have e2 : k ≤ Nat.log2 n := (Nat.le_log2 (by omega)).2 h
  omega
theorem lenB_lt (n k : Nat) : lenB n ≤ k ↔ n < 2 ^ k := by
  cases n with
  | zero => have := Nat.two_pow_pos k; simpa [lenB] using this
  | succ n =>
    show Nat.log2 (n + 1) + 1 ≤ k ↔ _
    rw [← Nat.log2_lt (by omega)]
    omega
theorem sh_nat (n k : Nat) (h : k ≤ 64) : sh (n : Int) (k : Int) = ((n / 2 ^ k : Nat) : Int) := by
  unfold sh
  rw [show IntKind.u64.bits = 64 from rfl, pow2_nat k 64 h, fdiv_nat]
theorem wr_u8n (z : Nat) (h : z < 256) : wr .u8 (z : Int) = (z : Int) := wr_u8 (by omega) (by omega)
theorem lenR_ok (base z : Nat) (hz : z < 256) (hb : base ≤ 56) : lenR (base : Int) (z : Int) = .int true .i64 ((base + lenB z : Nat) : Int) := by
  unfold lenR
  have h1 := tab8_ok ⟨z, hz⟩
  have h2 : byteAt tab8 (wr .u8 (z : Int)) = ((lenB z : Nat) : Int) := by
    rw [wr_u8n z hz]
    unfold byteAt
    rw [show (z : Int).toNat = z from rfl, h1]
  have h3 : lenB z ≤ 8 := (lenB_lt z 8).2 hz
  rw [h2, wr_i64 (x := ((lenB z : Nat) : Int)) (by omega) (by omega)]
  show AV.int true .i64 (wr .i64 ((base : Int) + (lenB z : Nat))) = _
  rw [wr_i64 (x := (base : Int) + (lenB z : Nat)) (by omega) (by omega)]
  congr 1
theorem lenPc_ok (z : Nat) (hz : z < 256) {p : Cs} (hp : Holds p) : Holds (lenPc (z : Int) p) := H1 (by rw [wr_u8n z hz]; exact inB_t (by omega) (by omega)) hp
theorem nilt_f {a b : Int} (h : a < b) : (!ilt a b) = false := by rw [ilt_t h]; rfl
theorem len_any (n : Nat) (h : n < 18446744073709551616) : ∃ ch, ∃ pc : Cs, Holds pc ∧ lenC (n : Int) ch = some (.ret (.int true .i64 ((lenB n : Nat) : Int)), .no, lenG pc) := by
  have s32 := sh_nat n 32 (by omega)
  have w0 : wr .i64 (Int.add 0 16) = 16 := rfl
  have w1 : wr .i64 (Int.add 0 8) = 8 := rfl
  have w2 : wr .i64 (Int.add 16 8) = 24 := rfl
  have w3 : wr .i64 (Int.add 32 16) = 48 := rfl
  have w4 : wr .i64 (Int.add 32 8) = 40 := rfl
  have w5 : wr .i64 (Int.add 48 8) = 56 := rfl
  have fin : ∀ (ch : List Bool) (base z : Nat) (B Z : Int) (p : Cs), lenC (n : Int) ch = some (.ret (lenR B Z), .no, lenG (lenPc Z p)) → B = (base : Int) → Z = (z : Int) → z < 256 → base ≤ 56 → Holds p → lenB n = base + lenB z → ∃ ch, ∃ pc : Cs, Holds pc ∧ lenC (n : Int) ch = some (.ret (.int true .i64 ((lenB n : Nat) : Int)), .no, lenG pc) := by
    intro ch base z B Z p h1 h2 h3 h4 h5 h6 h7
    subst h2 h3
    rw [lenR_ok base z h4 h5, ← h7] at h1
    exact ⟨ch, _, lenPc_ok z h4 h6, h1⟩
  by_cases a : 4294967296 ≤ n
  · have ea : (!ilt (n : Int) 4294967296) = true := nilt_t (by omega)
    have la := lenB_div n 32 (by omega)
    rw [show ((32 : Nat) : Int) = 32 from rfl] at s32
    generalize hq : n / 2 ^ 32 = q at *
    have hql : q < 4294967296 := by omega
    have s16 := sh_nat q 16 (by omega)
    rw [show ((16 : Nat) : Int) = 16 from rfl] at s16
    by_cases b : 65536 ≤ q
    · have eb : (!ilt (q : Int) 65536) = true := nilt_t (by omega)
      have lb := lenB_div q 16 (by omega)
      generalize hr : q / 2 ^ 16 = r at *
      have s8 := sh_nat r 8 (by omega)
      rw [show ((8 : Nat) : Int) = 8 from rfl] at s8
      by_cases c : 256 ≤ r
      · have lc := lenB_div r 8 (by omega)
        exact fin _ 56 (r / 2 ^ 8) _ _ _ (len_ttt n) (by rw [w3, w5]; rfl) (by rw [s32, s16, s8]) (by omega) (by omega) (H1 (by rw [s32, s16]; exact nilt_t (by omega)) (H1 (by rw [s32]; exact eb) (H1 ea trivial))) (by omega)
      · exact fin _ 48 r _ _ _ (len_ttf n) (by rw [w3]; rfl) (by rw [s32, s16]) (by omega) (by omega) (H1 (by rw [s32, s16]; exact nilt_f (by omega)) (H1 (by rw [s32]; exact eb) (H1 ea trivial))) (by omega)
    · have eb : (!ilt (q : Int) 65536) = false := nilt_f (by omega)
      have s8 := sh_nat q 8 (by omega)
      rw [show ((8 : Nat) : Int) = 8 from rfl] at s8
      by_cases c : 256 ≤ q
      · have lc := lenB_div q 8 (by omega)
        exact fin _ 40 (q / 2 ^ 8) _ _ _ (len_tft n) (by rw [w4]; rfl) (by rw [s32, s8]) (by omega) (by omega) (H1 (by rw [s32]; exact nilt_t (by omega)) (H1 (by rw [s32]; exact eb) (H1 ea trivial))) (by omega)
      · exact fin _ 32 q _ _ _ (len_tff n) rfl s32 (by omega) (by omega) (H1 (by rw [s32]; exact nilt_f (by omega)) (H1 (by rw [s32]; exact eb) (H1 ea trivial))) (by omega)
  · have ea : (!ilt (n : Int) 4294967296) = false := nilt_f (by omega)
    have s16 := sh_nat n 16 (by omega)
    rw [show ((16 : Nat) : Int) = 16 from rfl] at s16
    by_cases b : 65536 ≤ n
    · have eb : (!ilt (n : Int) 65536) = true := nilt_t (by omega)
      have lb := lenB_div n 16 (by omega)
      generalize hr : n / 2 ^ 16 = r at *
      have s8 := sh_nat r 8 (by omega)
      rw [show ((8 : Nat) : Int) = 8 from rfl] at s8
      by_cases c : 256 ≤ r
      · have lc := lenB_div r 8 (by omega)
        exact fin _ 24 (r / 2 ^ 8) _ _ _ (len_ftt n) (by rw [w0, w2]; rfl) (by rw [s16, s8]) (by omega) (by omega) (H1 (by rw [s16]; exact nilt_t (by omega)) (H1 eb (H1 ea trivial))) (by omega)
      · exact fin _ 16 r _ _ _ (len_ftf n) (by rw [w0]; rfl) (by rw [s16]) (by omega) (by omega) (H1 (by rw [s16]; exact nilt_f (by omega)) (H1 eb (H1 ea trivial))) (by omega)
    · have eb : (!ilt (n : Int) 65536) = false := nilt_f (by omega)
      have s8 := sh_nat n 8 (by omega)
      rw [show ((8 : Nat) : Int) = 8 from rfl] at s8
      by_cases c : 256 ≤ n
      · have lc := lenB_div n 8 (by omega)
        exact fin _ 8 (n / 2 ^ 8) _ _ _ (len_fft n) (by rw [w1]; rfl) s8 (by omega) (by omega) (H1 (nilt_t (by omega)) (H1 eb (H1 ea trivial))) (by omega)
      · exact fin _ 0 n _ _ _ (len_fff n) rfl rfl (by omega) (by omega) (H1 (nilt_f (by omega)) (H1 eb (H1 ea trivial))) (by omega)
theorem len_calls (n : Nat) (h : n < 18446744073709551616) (w : World) : Calls Tryz.prog 107 #[.int .u64 n] w fun e w' => e = .returned (.int .i64 ((lenB n : Nat) : Int)) ∧ ∃ ρ', Fram ⟨id, fun _ => 0⟩ Mem.e.get w ρ' Mem.e.get w' := by
  obtain ⟨ch, pc, hpc, hrun⟩ := len_any n h
  obtain ⟨hfn, hok⟩ := (sx_ok tT_ok tM none_ok 1000 20).ok _ _ _ _ _ _ _ hrun
  have hget : ∀ b, Mem.e.get b = none := mget_e
  refine ((hok (fun _ => False) ⟨id, fun _ => 0⟩ [.int .u64 n] w hpc (fun b hb => hb.elim) ⟨Nat.le_refl _, fun g _ => rfl, fun g _ => rfl⟩ (LR.cons (.int _ _ _) (LR.nil _ _)) ⟨fun b o hb => by { have := hget b; rw [show (Mem.e).get b = some o from hb] at this; cases this }, fun b o hb => by { have := hget b; rw [show (Mem.e).get b = some o from hb] at this; cases this }, fun b b' o o' hb => by { have := hget b; rw [show (Mem.e).get b = some o from hb] at this; cases this }⟩).1 rfl).mono fun e w' ⟨ρ', he, hend⟩ => ?_
  cases e with
  | returned x =>
    have hx : VR ρ' _ (.int true .i64 ((lenB n : Nat) : Int)) x := hend
    obtain rfl := hx.int_inv
    exact ⟨rfl, ρ', he.fr⟩
  | panicked c => exact hend.elim
  | outgrown => exact hend.elim
noncomputable def inU64 (c : Int) : Bool := !(ilt c 0) && ilt c 18446744073709551616
noncomputable def lenP (args : List AV) (g : G) : Option (AV × G) := match args with
  | [.int s .u64 x] => chk s (inU64 x) g fun g => some (.int s .i64 ((lenB x.toNat : Nat) : Int), g)
  | _ => none
noncomputable def pLen : Pr := prAt 107 lenP
theorem inU64_iff {c : Int} (h : inU64 c = true) : ∃ n : Nat, c = (n : Int) ∧ n < 18446744073709551616 := by
  unfold inU64 at h
  rw [Bool.and_eq_true, ilt_eq, ilt_eq] at h
  simp at h
  obtain ⟨n, rfl⟩ := Int.eq_ofNat_of_zero_le h.1
  exact ⟨n, rfl, by omega⟩
theorem pLen_ok : PrOk Tryz.prog pLen := by
  have inv : ∀ args g v g', lenP args g = some (v, g') → ∃ s x, args = [.int s .u64 x] ∧ v = .int s .i64 ((lenB x.toNat : Nat) : Int) ∧ Pc g g' ∧ (g'.pc → inU64 x = true) := by
    intro args g v g' h
    unfold lenP at h
    split at h
    · rename_i s x
      obtain ⟨g1, hp1, hc1, h1⟩ := chk_some h
      injection h1 with h1
      obtain ⟨rfl, rfl⟩ := Prod.mk.inj h1
      exact ⟨s, x, rfl, rfl, hp1, hc1⟩
    · cases h
  refine PrOk.at_ (fnOk_of Tryz.func107 (body_of Tryz.func107 (by kernel_rfl)) (by kernel_rfl)) (fun args g v g' h => ?_) (fun args g v g' h E ρ vs w p hE hg hL hw => ?_)
  · obtain ⟨s, x, rfl, _, h2, _⟩ := inv _ _ _ _ h
    exact ⟨h2.pc, by rw [h2.nx]; exact Nat.le_refl _⟩
  · obtain ⟨s, x, rfl, rfl, h2, h3⟩ := inv _ _ _ _ h
    obtain ⟨y, rfl, hy⟩ := one_arg hL
    obtain rfl := hy.int_inv
    obtain ⟨n, rfl, hn⟩ := inU64_iff (h3 p)
    refine (len_calls n hn w).mono fun e w' ⟨he, ρ', hf⟩ => ?_
    subst he
    refine ⟨ρ, Eff.drewn hw h2 hf mget_e, ?_⟩
    show VR _ _ (.int s .i64 ((lenB (n : Int).toNat : Nat) : Int)) _
    exact .int _ _ _
/-- runs over the contracts of the library and of the sums -/
noncomputable def pBase : Pr := prOr pCon (prOr pMore (prOr pAdl pLen))
theorem pBase_ok : PrOk Tryz.prog pBase := pCon_ok.or (pMore_ok.or (pAdl_ok.or pLen_ok))
noncomputable def bP : CallT := callN tT (prCall pBase) 1000 30
theorem bP_ok : CallOk Tryz.prog bP := sx_ok tT_ok tM pBase_ok.call 1000 30
end Go.Proofs.YtkclgbccnbiojaaGreatDoor.SX
